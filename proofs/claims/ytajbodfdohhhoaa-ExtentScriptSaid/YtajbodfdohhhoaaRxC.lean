/- The reference's Take and Give. Printed by gen_rx.py. -/
import Derived.Test.YtajbodfdohhhoaaRxB
namespace Go.Proofs.Ytajbodfdohhhoaa
open Go.RowKit
section
variable {w w' : World} {c g N : Nat} {L : List Rg}
set_option maxRecDepth 100000 in
set_option maxHeartbeats 4000000 in
theorem rtake_any (h : RM w c g N L) (r : Rg) :
    Calls Try.prog 21 #[.pointer (some ⟨c, 0, none⟩), r.val] w fun e w' => e = .returned (.int .i64 (takeE N L r)) ∧ RM w' c g N (takeS N L r) ∧ Moves (fun q => q = g) w w' := by
  obtain ⟨hb, hr⟩ := h
  have hbA : Below w.heap.size w (w.alloc (.cells #[.int .i64 r.lo, .int .i64 r.hi] 27)) := (Below.refl _ _).alloc (Nat.le_refl _) _
  have hbx : RBox (w.alloc (.cells #[.int .i64 r.lo, .int .i64 r.hi] 27)) w.heap.size r := RBox.made w r 27
  have hB0 := hb.below hbA
  have hmay := rmay_any hB0 r
  have hug : ¬ w.heap.size = g := by have := hb.ltg; omega
  have HB0 := Lib.hid hB0
  have HbA := Lib.hid hbA
  have Hbx := Lib.hid hbx
  have Hr := Lib.hid hr
  obtain ⟨-, x0, x1⟩ := hbx
  unfold Rg.val at hmay ⊢
  clear hb hr hbA hB0
  by_cases hm : mayE N r = 0
  · obtain ⟨r0, r1, r2⟩ := mayE_zero hm
    rw [hm] at hmay
    have hall := fun W (hW : Below w.heap.size w W) (hRB : RB W c g N (fun j => isIn L j)) => rall_any hRB r r0 r2 true
    have hset := fun W (hRB : RB W c g N (fun j => isIn L j)) => rset_any hRB r r0 r2 false
    have hiff : allB (fun j => isIn L j) r.lo r.hi true ↔ okT L r = true := by
      rw [okT_iff Hr.out r0 r1]
      constructor
      · intro hh i i1 i2
        obtain ⟨j, rfl⟩ := Int.eq_ofNat_of_zero_le (show 0 ≤ i by omega)
        exact hh j i1 i2
      · intro hh j j1 j2
        exact hh _ j1 j2
    unfold Rg.val at hall hset
    have Hall := Lib.hid hall
    have Hset := Lib.hid hset
    have Hiff := Lib.hid hiff
    clear hall hset hiff
    go_enter Try.func21, Try.ntmps21
    go_wp2_with fail
    refine hmay.mono ?_
    rintro e w2 ⟨rfl, hb2⟩
    have HB2 := Lib.hid (HB0.out.below hb2)
    have Hb2 := Lib.hid (HbA.out.trans (hb2.mono HbA.out.size))
    have Hbx2 := Lib.hid (Hbx.out.below hb2)
    obtain ⟨-, y0, y1⟩ := Hbx.out.below hb2
    have hal2 := Hall.out _ Hb2.out HB2.out
    clear hmay hb2 x0 x1
    go_wp2_with fail
    refine hal2.mono ?_
    rintro e w3 ⟨x, rfl, hx, hb3⟩
    have HB3 := Lib.hid (HB2.out.below hb3)
    have Hb3 := Lib.hid (Hb2.out.trans (hb3.mono Hb2.out.size))
    obtain ⟨-, z0, z1⟩ := Hbx2.out.below hb3
    have hxo := hx.trans Hiff.out
    clear hal2 hb3 y0 y1 hx
    cases x with
    | false =>
      have ho : ¬ okT L r = true := fun h => by have := hxo.2 h; cases this
      have e1 : takeE N L r = 4 := by simp [takeE, hm, ho]
      have e2 : takeS N L r = L := by simp [takeS, ho]
      have E1 := Lib.hid e1
      have E2 := Lib.hid e2
      have HF := Lib.hid (show RM w3 c g N L from ⟨HB3.out, Hr.out⟩)
      have HM := Lib.hid (Moves.of_below (F := fun q => q = g) Hb3.out)
      clear hxo ho e1 e2 hm
      go_wp2_with fail
      go_ret
      rw [E1.out, E2.out]
      exact ⟨rfl, HF.out, HM.out⟩
    | true =>
      have ho : okT L r = true := hxo.1 rfl
      have e1 : takeE N L r = 0 := by simp [takeE, hm, ho]
      have e2 : takeS N L r = takeR L r.lo r.hi := by simp [takeS, hm, ho]
      obtain ⟨t1, t2⟩ := takeR_ok Hr.out r0 r1 ((okT_iff Hr.out r0 r1).1 ho)
      have E1 := Lib.hid e1
      have E2 := Lib.hid e2
      have hse := Hset.out _ HB3.out
      have Ht1 := Lib.hid t1
      have Ht2 := Lib.hid t2
      clear hxo ho e1 e2 hm t1 t2
      go_wp2_with fail
      refine hse.mono ?_
      rintro e w4 ⟨rfl, hb4, hm4⟩
      have HF := Lib.hid (show RM w4 c g N (takeR L r.lo r.hi) from ⟨hb4.same fun j _ => by
        rw [Ht2.out]
        unfold setF
        by_cases hc : r.lo ≤ (j : Int) ∧ (j : Int) < r.hi
        · rw [if_pos hc, decide_eq_true hc.1, decide_eq_true hc.2]; simp
        · rw [if_neg hc]
          have : (decide (r.lo ≤ (j : Int)) && decide ((j : Int) < r.hi)) = false := by rw [Bool.and_eq_false_iff, decide_eq_false_iff_not, decide_eq_false_iff_not]; omega
          rw [this]; simp, Ht1.out⟩)
      have HM := Lib.hid ((Moves.of_below (F := fun q => q = g) Hb3.out).trans hm4 fun q hq => .inl hq)
      clear hse hb4 hm4 z0 z1
      go_wp2_with fail
      go_ret
      rw [E1.out, E2.out]
      exact ⟨rfl, HF.out, HM.out⟩
  · have e1 : takeE N L r = mayE N r := by simp [takeE, hm]
    have e2 : takeS N L r = L := by simp [takeS, hm]
    have hne : (mayE N r == 0) = false := by simpa using hm
    rw [e1, e2]
    clear e1 e2 hm
    generalize mayE N r = ee at hmay hne ⊢
    go_enter Try.func21, Try.ntmps21
    go_wp2_with fail
    refine hmay.mono ?_
    rintro e w2 ⟨rfl, hb2⟩
    have HF := Lib.hid (show RM w2 c g N L from ⟨HB0.out.below hb2, Hr.out⟩)
    have HM := Lib.hid (Moves.of_below (F := fun q => q = g) (HbA.out.trans (hb2.mono HbA.out.size)))
    clear hmay hb2 x0 x1
    go_wp2_with fail
    go_ret
    exact ⟨rfl, HF.out, HM.out⟩
set_option maxRecDepth 100000 in
set_option maxHeartbeats 4000000 in
theorem rgive_any (h : RM w c g N L) (r : Rg) :
    Calls Try.prog 22 #[.pointer (some ⟨c, 0, none⟩), r.val] w fun e w' => e = .returned (.int .i64 (giveE N L r)) ∧ RM w' c g N (giveS N L r) ∧ Moves (fun q => q = g) w w' := by
  obtain ⟨hb, hr⟩ := h
  have hbA : Below w.heap.size w (w.alloc (.cells #[.int .i64 r.lo, .int .i64 r.hi] 27)) := (Below.refl _ _).alloc (Nat.le_refl _) _
  have hbx : RBox (w.alloc (.cells #[.int .i64 r.lo, .int .i64 r.hi] 27)) w.heap.size r := RBox.made w r 27
  have hB0 := hb.below hbA
  have hmay := rmay_any hB0 r
  have hug : ¬ w.heap.size = g := by have := hb.ltg; omega
  have HB0 := Lib.hid hB0
  have HbA := Lib.hid hbA
  have Hbx := Lib.hid hbx
  have Hr := Lib.hid hr
  obtain ⟨-, x0, x1⟩ := hbx
  unfold Rg.val at hmay ⊢
  clear hb hr hbA hB0
  by_cases hm : mayE N r = 0
  · obtain ⟨r0, r1, r2⟩ := mayE_zero hm
    rw [hm] at hmay
    have hall := fun W (hW : Below w.heap.size w W) (hRB : RB W c g N (fun j => isIn L j)) => rall_any hRB r r0 r2 false
    have hset := fun W (hRB : RB W c g N (fun j => isIn L j)) => rset_any hRB r r0 r2 true
    have hiff : allB (fun j => isIn L j) r.lo r.hi false ↔ okG L r = true := by
      rw [okG_iff Hr.out r0 r1]
      constructor
      · intro hh i i1 i2
        obtain ⟨j, rfl⟩ := Int.eq_ofNat_of_zero_le (show 0 ≤ i by omega)
        exact hh j i1 i2
      · intro hh j j1 j2
        exact hh _ j1 j2
    unfold Rg.val at hall hset
    have Hall := Lib.hid hall
    have Hset := Lib.hid hset
    have Hiff := Lib.hid hiff
    clear hall hset hiff
    go_enter Try.func22, Try.ntmps22
    go_wp2_with fail
    refine hmay.mono ?_
    rintro e w2 ⟨rfl, hb2⟩
    have HB2 := Lib.hid (HB0.out.below hb2)
    have Hb2 := Lib.hid (HbA.out.trans (hb2.mono HbA.out.size))
    have Hbx2 := Lib.hid (Hbx.out.below hb2)
    obtain ⟨-, y0, y1⟩ := Hbx.out.below hb2
    have hal2 := Hall.out _ Hb2.out HB2.out
    clear hmay hb2 x0 x1
    go_wp2_with fail
    refine hal2.mono ?_
    rintro e w3 ⟨x, rfl, hx, hb3⟩
    have HB3 := Lib.hid (HB2.out.below hb3)
    have Hb3 := Lib.hid (Hb2.out.trans (hb3.mono Hb2.out.size))
    obtain ⟨-, z0, z1⟩ := Hbx2.out.below hb3
    have hxo := hx.trans Hiff.out
    clear hal2 hb3 y0 y1 hx
    cases x with
    | false =>
      have ho : ¬ okG L r = true := fun h => by have := hxo.2 h; cases this
      have e1 : giveE N L r = 3 := by simp [giveE, hm, ho]
      have e2 : giveS N L r = L := by simp [giveS, ho]
      have E1 := Lib.hid e1
      have E2 := Lib.hid e2
      have HF := Lib.hid (show RM w3 c g N L from ⟨HB3.out, Hr.out⟩)
      have HM := Lib.hid (Moves.of_below (F := fun q => q = g) Hb3.out)
      clear hxo ho e1 e2 hm
      go_wp2_with fail
      go_ret
      rw [E1.out, E2.out]
      exact ⟨rfl, HF.out, HM.out⟩
    | true =>
      have ho : okG L r = true := hxo.1 rfl
      have e1 : giveE N L r = 0 := by simp [giveE, hm, ho]
      have e2 : giveS N L r = giveR L r.lo r.hi := by simp [giveS, hm, ho]
      obtain ⟨t1, t2⟩ := giveR_ok Hr.out r0 r1 r2 ((okG_iff Hr.out r0 r1).1 ho)
      have E1 := Lib.hid e1
      have E2 := Lib.hid e2
      have hse := Hset.out _ HB3.out
      have Ht1 := Lib.hid t1
      have Ht2 := Lib.hid t2
      clear hxo ho e1 e2 hm t1 t2
      go_wp2_with fail
      refine hse.mono ?_
      rintro e w4 ⟨rfl, hb4, hm4⟩
      have HF := Lib.hid (show RM w4 c g N (giveR L r.lo r.hi) from ⟨hb4.same fun j _ => by
        rw [Ht2.out]
        unfold setF
        by_cases hc : r.lo ≤ (j : Int) ∧ (j : Int) < r.hi
        · rw [if_pos hc, decide_eq_true hc.1, decide_eq_true hc.2]; simp
        · rw [if_neg hc]
          have : (decide (r.lo ≤ (j : Int)) && decide ((j : Int) < r.hi)) = false := by rw [Bool.and_eq_false_iff, decide_eq_false_iff_not, decide_eq_false_iff_not]; omega
          rw [this]; simp, Ht1.out⟩)
      have HM := Lib.hid ((Moves.of_below (F := fun q => q = g) Hb3.out).trans hm4 fun q hq => .inl hq)
      clear hse hb4 hm4 z0 z1
      go_wp2_with fail
      go_ret
      rw [E1.out, E2.out]
      exact ⟨rfl, HF.out, HM.out⟩
  · have e1 : giveE N L r = mayE N r := by simp [giveE, hm]
    have e2 : giveS N L r = L := by simp [giveS, hm]
    have hne : (mayE N r == 0) = false := by simpa using hm
    rw [e1, e2]
    clear e1 e2 hm
    generalize mayE N r = ee at hmay hne ⊢
    go_enter Try.func22, Try.ntmps22
    go_wp2_with fail
    refine hmay.mono ?_
    rintro e w2 ⟨rfl, hb2⟩
    have HF := Lib.hid (show RM w2 c g N L from ⟨HB0.out.below hb2, Hr.out⟩)
    have HM := Lib.hid (Moves.of_below (F := fun q => q = g) (HbA.out.trans (hb2.mono HbA.out.size)))
    clear hmay hb2 x0 x1
    go_wp2_with fail
    go_ret
    exact ⟨rfl, HF.out, HM.out⟩
end
end Go.Proofs.Ytajbodfdohhhoaa
