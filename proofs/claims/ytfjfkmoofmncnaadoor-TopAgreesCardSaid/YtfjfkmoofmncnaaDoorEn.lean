/- The commands' bytes: columns, Encode. -/
import Derived.Test.YtfjfkmoofmncnaaDoorMc
import Derived.Test.YtfjfkmoofmncnaaDoorFr
import Derived.Test.YtfjfkmoofmncnaaDoorGv
import Derived.BigRegion
namespace Go.Proofs.YtfjfkmoofmncnaaDoor
open Go.RowKit
/-- A command as the law has it: nine numbers, whatever they are. -/
structure CI where
  x0 : Int
  x1 : Int
  x2 : Int
  x3 : Int
  x4 : Int
  x5 : Int
  x6 : Int
  x7 : Int
  x8 : Int
def CI.cells (x : CI) : List Value := [.int .i64 x.x0, .int .i64 x.x1, .int .i64 x.x2, .int .i64 x.x3, .int .i64 x.x4, .int .i64 x.x5, .int .i64 x.x6, .int .i64 x.x7, .int .i64 x.x8]
def CI.val (x : CI) : Value := .agg #[.int .i64 x.x0, .int .i64 x.x1, .int .i64 x.x2, .int .i64 x.x3, .int .i64 x.x4, .int .i64 x.x5, .int .i64 x.x6, .int .i64 x.x7, .int .i64 x.x8]
def CI.nums (x : CI) : List (Int × Nat) := [(x.x0, 1), (x.x1, 1), (x.x2, 8), (x.x3, 8), (x.x4, 8), (x.x5, 2), (x.x6, 2), (x.x7, 1), (x.x8, 1)]
def i64 (n : Int) : Prop := -9223372036854775808 ≤ n ∧ n < 9223372036854775808
def CI.wide (x : CI) : Prop := ∀ p ∈ x.nums, i64 p.1
/-- Of a command whose numbers fit. -/
def Cm.ci (c : Cm) : CI := ⟨c.kind, c.client, c.seq, c.now, c.len, c.a, c.b, c.mode, c.other⟩
structure Cm.Fits (c : Cm) : Prop where
  kind : c.kind < 256
  client : c.client < 256
  seq : c.seq < 9223372036854775808
  now : c.now < 9223372036854775808
  len : c.len < 9223372036854775808
  a : c.a < 65536
  b : c.b < 65536
  mode : c.mode < 256
  other : c.other < 256
def encI (l : List (Int × Nat)) : List UInt8 := l.flatMap fun p => leN p.1.toNat p.2
def encC (c : Cm) : List UInt8 := encI c.ci.nums
theorem CI.of_fits (x : CI) (hw : x.wide) (hf : ∀ p ∈ x.nums, numFits p.1 p.2) : ∃ c : Cm, c.Fits ∧ x = c.ci := by
  have f : ∀ p ∈ x.nums, 0 ≤ p.1 ∧ p.1 < 256 ^ p.2 ∧ p.1 < 9223372036854775808 := fun p hp => ⟨(hf p hp).1, (hf p hp).2, (hw p hp).2⟩
  have g0 := f (x.x0, 1) (by simp [CI.nums])
  have g1 := f (x.x1, 1) (by simp [CI.nums])
  have g2 := f (x.x2, 8) (by simp [CI.nums])
  have g3 := f (x.x3, 8) (by simp [CI.nums])
  have g4 := f (x.x4, 8) (by simp [CI.nums])
  have g5 := f (x.x5, 2) (by simp [CI.nums])
  have g6 := f (x.x6, 2) (by simp [CI.nums])
  have g7 := f (x.x7, 1) (by simp [CI.nums])
  have g8 := f (x.x8, 1) (by simp [CI.nums])
  obtain ⟨x0, x1, x2, x3, x4, x5, x6, x7, x8⟩ := x
  simp only at g0 g1 g2 g3 g4 g5 g6 g7 g8
  refine ⟨⟨x0.toNat, x1.toNat, x2.toNat, x3.toNat, x4.toNat, x5.toNat, x6.toNat, x7.toNat, x8.toNat⟩, ⟨by show x0.toNat < _; omega, by show x1.toNat < _; omega, by show x2.toNat < _; omega, by show x3.toNat < _; omega, by show x4.toNat < _; omega, by show x5.toNat < _; omega, by show x6.toNat < _; omega, by show x7.toNat < _; omega, by show x8.toNat < _; omega⟩, ?_⟩
  unfold Cm.ci
  rw [Int.toNat_of_nonneg g0.1, Int.toNat_of_nonneg g1.1, Int.toNat_of_nonneg g2.1, Int.toNat_of_nonneg g3.1, Int.toNat_of_nonneg g4.1, Int.toNat_of_nonneg g5.1, Int.toNat_of_nonneg g6.1, Int.toNat_of_nonneg g7.1, Int.toNat_of_nonneg g8.1]
def gcols (u : Nat) : List Value := [.pointer (some ⟨u, 0, none⟩), .int .i64 1, .pointer (some ⟨u, 1, none⟩), .int .i64 1, .pointer (some ⟨u, 2, none⟩), .int .i64 8, .pointer (some ⟨u, 3, none⟩), .int .i64 8, .pointer (some ⟨u, 4, none⟩), .int .i64 8, .pointer (some ⟨u, 5, none⟩), .int .i64 2, .pointer (some ⟨u, 6, none⟩), .int .i64 2, .pointer (some ⟨u, 7, none⟩), .int .i64 1, .pointer (some ⟨u, 8, none⟩), .int .i64 1]
theorem gcols_at (x : CI) (u : Nat) {k : Nat} {n : Int} {d : Nat} (hk : x.nums[k]? = some (n, d)) : (d = 1 ∨ d = 2 ∨ d = 4 ∨ d = 8) ∧ x.cells[k]? = some (.int .i64 n) ∧ (gcols u)[k * 2]? = some (.pointer (some ⟨u, k, none⟩)) ∧ (gcols u)[k * 2 + 1]? = some (.int .i64 (d : Int)) := by
  match k, hk with
  | 0, hk => obtain ⟨rfl, rfl⟩ : x.x0 = n ∧ 1 = d := by simpa [CI.nums] using hk
             exact ⟨by omega, rfl, rfl, rfl⟩
  | 1, hk => obtain ⟨rfl, rfl⟩ : x.x1 = n ∧ 1 = d := by simpa [CI.nums] using hk
             exact ⟨by omega, rfl, rfl, rfl⟩
  | 2, hk => obtain ⟨rfl, rfl⟩ : x.x2 = n ∧ 8 = d := by simpa [CI.nums] using hk
             exact ⟨by omega, rfl, rfl, rfl⟩
  | 3, hk => obtain ⟨rfl, rfl⟩ : x.x3 = n ∧ 8 = d := by simpa [CI.nums] using hk
             exact ⟨by omega, rfl, rfl, rfl⟩
  | 4, hk => obtain ⟨rfl, rfl⟩ : x.x4 = n ∧ 8 = d := by simpa [CI.nums] using hk
             exact ⟨by omega, rfl, rfl, rfl⟩
  | 5, hk => obtain ⟨rfl, rfl⟩ : x.x5 = n ∧ 2 = d := by simpa [CI.nums] using hk
             exact ⟨by omega, rfl, rfl, rfl⟩
  | 6, hk => obtain ⟨rfl, rfl⟩ : x.x6 = n ∧ 2 = d := by simpa [CI.nums] using hk
             exact ⟨by omega, rfl, rfl, rfl⟩
  | 7, hk => obtain ⟨rfl, rfl⟩ : x.x7 = n ∧ 1 = d := by simpa [CI.nums] using hk
             exact ⟨by omega, rfl, rfl, rfl⟩
  | 8, hk => obtain ⟨rfl, rfl⟩ : x.x8 = n ∧ 1 = d := by simpa [CI.nums] using hk
             exact ⟨by omega, rfl, rfl, rfl⟩
  | k + 9, hk => simp [CI.nums] at hk
theorem encI_len (x : CI) (k : Nat) : (encI (x.nums.take k)).length ≤ 32 := by
  match k with
  | 0 => simp [encI]
  | 1 => simp [encI, CI.nums, length_leN]
  | 2 => simp [encI, CI.nums, length_leN]
  | 3 => simp [encI, CI.nums, length_leN]
  | 4 => simp [encI, CI.nums, length_leN]
  | 5 => simp [encI, CI.nums, length_leN]
  | 6 => simp [encI, CI.nums, length_leN]
  | 7 => simp [encI, CI.nums, length_leN]
  | 8 => simp [encI, CI.nums, length_leN]
  | k + 9 => simp [encI, CI.nums, length_leN]
section
variable {w : World}
set_option maxRecDepth 100000 in
set_option maxHeartbeats 4000000 in
theorem gcolumns_any (u : Nat) : Calls Tryd.prog 19 #[.pointer (some ⟨u, 0, none⟩)] w fun e w' => ∃ g, e = .returned (.slice (some ⟨g, 0, none⟩) 9 9) ∧ (∀ i c, (gcols u)[i]? = some c → w'.cell? ⟨g, i, none⟩ = some c) ∧ Below w.heap.size w w' ∧ w.heap.size ≤ g := by
  go_enter Tryd.func19, Tryd.ntmps19
  go_wp2_with fail
  refine wp_region_still_tail 38 (by kernel_rfl) (by kernel_rfl) ?_
  simp only [List.take_succ_cons, List.take_zero, List.drop_succ_cons, List.drop_zero]
  iterate 38 still_step
  refine wpStill_nil ?_
  go_wp2_with fail
  go_ret
  refine ⟨w.heap.size, rfl, fun i c hc => ?_, ((Below.refl _ _).alloc (Nat.le_refl _) _).drew, Nat.le_refl _⟩
  have hx := World.cell?_alloc_new w.drew (gcols u).toArray 84 i
  rw [List.getElem?_toArray, hc] at hx
  exact hx
end
end Go.Proofs.YtfjfkmoofmncnaaDoor
