/- The reference's may, Is, Free, Take, Give. -/
import Derived.Test.YtajbodfdohhhoaaRxA
namespace Go.Proofs.Ytajbodfdohhhoaa
open Go.RowKit
section
variable {w w' : World} {c g N : Nat} {f : Nat → Bool} {L : List Rg}
set_option maxRecDepth 100000 in
set_option maxHeartbeats 2000000 in
theorem rmay_any (h : RB w c g N f) (r : Rg) :
    Calls Try.prog 34 #[.pointer (some ⟨c, 0, none⟩), r.val] w fun e w' => e = .returned (.int .i64 (mayE N r)) ∧ Below w.heap.size w w' := by
  have hlt := h.ltc
  have c0 := h.c0
  have hbA : Below w.heap.size w (w.alloc (.cells r.cells.toArray 27)) := (Below.refl _ _).alloc (Nat.le_refl _) _
  have HbA := Lib.hid hbA
  clear h hbA
  by_cases h1 : r.hi ≤ r.lo
  · have e : mayE N r = 1 := if_pos h1
    rw [e]
    clear e
    go_enter Try.func34, Try.ntmps34
    unfold Rg.val
    go_wp2_with fail
    go_ret
    exact ⟨rfl, HbA.out⟩
  · by_cases h2 : r.lo < 0
    · have e : mayE N r = 71 := by rw [mayE, if_neg h1, if_pos (.inl h2)]
      have e2 : decide (r.lo < 0) = true := by simpa using h2
      rw [e]
      clear e
      go_enter Try.func34, Try.ntmps34
      unfold Rg.val
      go_wp2_with fail
      go_quiet (fail)
      go_wp2_with fail
      go_ret
      exact ⟨rfl, HbA.out.trans ⟨rfl, rfl, rfl, Nat.le_refl _, fun _ _ => rfl⟩⟩
    · have e2 : decide (r.lo < 0) = false := by simpa using h2
      by_cases h3 : (N : Int) < r.hi
      · have e : mayE N r = 71 := by rw [mayE, if_neg h1, if_pos (.inr h3)]
        have e3 : decide ((N : Int) < r.hi) = true := by simpa using h3
        rw [e]
        clear e
        go_enter Try.func34, Try.ntmps34
        unfold Rg.val
        go_wp2_with fail
        go_quiet (fail)
        go_wp2_with fail
        go_ret
        exact ⟨rfl, HbA.out.trans ⟨rfl, rfl, rfl, Nat.le_refl _, fun _ _ => rfl⟩⟩
      · have e : mayE N r = 0 := by rw [mayE, if_neg h1, if_neg (by omega)]
        have e3 : decide ((N : Int) < r.hi) = false := by simpa using h3
        rw [e]
        clear e
        go_enter Try.func34, Try.ntmps34
        unfold Rg.val
        go_wp2_with fail
        go_quiet (fail)
        go_wp2_with fail
        go_ret
        exact ⟨rfl, HbA.out.trans ⟨rfl, rfl, rfl, Nat.le_refl _, fun _ _ => rfl⟩⟩
/-- The reference's map, whose free places are L's. -/
def RM (w : World) (c g N : Nat) (L : List Rg) : Prop := RB w c g N (fun j => isIn L j) ∧ Rises (N : Int) (-1) L
set_option maxRecDepth 100000 in
set_option maxHeartbeats 2000000 in
theorem ris_any (h : RM w c g N L) (i : Int) :
    Calls Try.prog 24 #[.pointer (some ⟨c, 0, none⟩), .int .i64 i] w fun e w' => e = .returned (.bool (isIn L i)) ∧ Below w.heap.size w w' := by
  obtain ⟨hb, hr⟩ := h
  have c0 := hb.c0
  by_cases h0 : 0 ≤ i
  · obtain ⟨k, rfl⟩ := Int.eq_ofNat_of_zero_le h0
    by_cases h1 : (k : Int) < N
    · have e1 : decide ((k : Int) < (N : Int)) = true := by simpa using h1
      have e0 : decide ((0 : Int) ≤ (k : Int)) = true := by simp
      have z0 := hb.cat k (by omega)
      have hkN : k < N := by omega
      generalize isIn L k = x at z0 ⊢
      clear hb hr h1 h0
      go_enter Try.func24, Try.ntmps24
      go_wp2_with fail
      go_ret
      exact ⟨rfl, Below.refl _ _⟩
    · have e : isIn L k = false := by
        rw [Bool.eq_false_iff]
        intro hx
        have := hr.mem hx; omega
      have e1 : decide ((k : Int) < (N : Int)) = false := by simpa using h1
      have e1' : decide (k < N) = false := by simp; omega
      have e0 : decide ((0 : Int) ≤ (k : Int)) = true := by simp
      rw [e]
      clear hb hr h1 h0 e
      go_enter Try.func24, Try.ntmps24
      go_wp2_with fail
      go_ret
      exact ⟨rfl, Below.refl _ _⟩
  · have e : isIn L i = false := by
      rw [Bool.eq_false_iff]
      intro hx
      have := hr.mem hx; omega
    have e0 : decide ((0 : Int) ≤ i) = false := by simpa using h0
    rw [e]
    clear hb hr h0 e
    go_enter Try.func24, Try.ntmps24
    go_wp2_with fail
    go_ret
    exact ⟨rfl, Below.refl _ _⟩
set_option maxRecDepth 100000 in
set_option maxHeartbeats 2000000 in
theorem rfree_any (h : RM w c g N L) :
    Calls Try.prog 19 #[.pointer (some ⟨c, 0, none⟩)] w fun e w' => e = .returned (.int .i64 (sumR L)) ∧ w' = w := by
  obtain ⟨hb, hr⟩ := h
  have hn2 := hb.n2
  have c0 := hb.c0
  have hlast := cutL_all hr
  have hfirst := cutL_nil hr (i := ((0 : Nat) : Int)) (by omega)
  have hbd := fun i : Int => cutL_sum (i := i) hr
  have hto := hr.sum (by omega)
  have Hb := Lib.hid hb
  have Hr := Lib.hid hr
  have Hl := Lib.hid hlast
  have Hf := Lib.hid hfirst
  have Hbd := Lib.hid hbd
  clear hb hr hlast hfirst hbd
  go_enter Try.func19, Try.ntmps19
  go_wp2_with fail
  go_loop [3, 4] (fun n i => ∃ k : Nat, k ≤ N ∧ i = .int .i64 (k : Int) ∧ n = .int .i64 (sumR (cutL (k : Int) L))) (fun _ i => N - (intOf i).toNat)
  case atStart => exact ⟨0, Nat.zero_le _, rfl, by rw [Hf.out]; rfl⟩
  case round =>
    obtain ⟨k, hk, rfl, rfl⟩ := hrel
    have hsb := Hbd.out k
    by_cases hlt : k < N
    · have z0 := Hb.out.cat k hlt
      cases hx : isIn L k with
      | true =>
        have hs := sum_on Hr.out (by omega) hx
        rw [hx] at z0
        have HS := Lib.hid hs
        generalize sumR (cutL (k : Int) L) = S at HS hsb ⊢
        have hw1 : IntKind.i64.wrap (S + 1) = S + 1 := by rw [IntKind.wrap_i64]; omega
        clear hx hs
        go_wp2_with fail
        go_round
        case rel => exact ⟨k + 1, by omega, by go_num, by rw [show ((k + 1 : Nat) : Int) = (k : Int) + 1 by omega, HS.out]⟩
        case measure => simp [intOf]; omega
      | false =>
        have hs := sum_off Hr.out hx
        rw [hx] at z0
        have HS := Lib.hid hs
        generalize sumR (cutL (k : Int) L) = S at HS hsb ⊢
        clear hx hs
        go_wp2_with fail
        go_round
        case rel => exact ⟨k + 1, by omega, by go_num, by rw [show ((k + 1 : Nat) : Int) = (k : Int) + 1 by omega, HS.out]⟩
        case measure => simp [intOf]; omega
    · have ek : (k : Int) = N := by omega
      have hs : sumR (cutL (k : Int) L) = sumR L := by rw [ek, Hl.out]
      rw [hs]
      clear hs ek
      go_wp2_with fail
      go_ret
      exact ⟨rfl, rfl⟩
end
end Go.Proofs.Ytajbodfdohhhoaa
