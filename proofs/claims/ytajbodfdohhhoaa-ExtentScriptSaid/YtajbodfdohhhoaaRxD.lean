/- The reference's List. -/
import Derived.Test.YtajbodfdohhhoaaRxC
namespace Go.Proofs.Ytajbodfdohhhoaa
open Go.RowKit
section
variable {w w' : World} {c g N : Nat} {L : List Rg}
set_option maxRecDepth 100000 in
set_option maxHeartbeats 8000000 in
theorem rlist_any (h : RM w c g N L) :
    Calls Try.prog 23 #[.pointer (some ⟨c, 0, none⟩)] w fun e w' => ∃ v', e = .returned v' ∧ w'.ownsRow w.heap.size 27 2 v' L.length (rrows L) ∧ Below w.heap.size w w' := by
  obtain ⟨i0, hi0, hz0, hz1, hz2⟩ := info_parts Try.infoRg
  have Hi := Lib.hid hi0
  have Hz := Lib.hid hz0
  have Hz1 := Lib.hid hz1
  have Hz2 := Lib.hid hz2
  obtain ⟨hb, hr⟩ := h
  have hn2 := hb.n2
  have hln := hr.len (by omega)
  have Hb := Lib.hid (fun W (hW : Below w.heap.size w W) => hb.below hW)
  have Hr := Lib.hid hr
  have hown0 : (w.alloc (.cells #[] 27)).ownsRow w.heap.size 27 2 (.slice (some ⟨w.heap.size, 0, none⟩) 0 0) 0 [] := World.ownsRow_lit (base := w.heap.size) (size := 2) (e := 27) w #[] 0 (Nat.le_refl _) (by unfold maxLen; omega) rfl
  have HO := Lib.hid hown0
  have HbA := Lib.hid (show Below w.heap.size w (w.alloc (.cells #[] 27)) from (Below.refl _ _).alloc (Nat.le_refl _) _)
  clear hi0 hz0 hz1 hz2 hb hr hown0
  go_enter Try.func23, Try.ntmps23
  go_wp2_with fail
  go_loopw [3, 4] (fun v i wr => ∃ (k : Nat) (C : List Rg), k ≤ N ∧ i = .int .i64 (k : Int) ∧ Hid (cutL (k : Int) L = C) ∧ wr.ownsRow w.heap.size 27 2 v C.length (rrows C) ∧ Below w.heap.size w wr) (fun _ i _ => N - (intOf i).toNat)
  case atStart => exact ⟨0, [], Nat.zero_le _, rfl, Lib.hid (cutL_nil Hr.out (by omega)), HO.out, HbA.out⟩
  case round =>
    clear HO HbA
    obtain ⟨k, C, hk, rfl, hC, ho, hbw⟩ := hrel
    have hrb := Hb.out _ hbw
    have c0 := hrb.c0
    by_cases hlt : k < N
    · have z0 := hrb.cat k hlt
      have hCl : C.length ≤ 5001 := by
        have := cutL_len (n := N) (L := L) (k : Int)
        rw [hC.out] at this; omega
      obtain ⟨a2, cap2, rfl⟩ := RowR.lens (show RowR wr _ C from ownsRow_base ho fun _ _ => Nat.zero_le _)
      cases hx : isIn L k with
      | false =>
        have HC := Lib.hid (show cutL ((k + 1 : Nat) : Int) L = C by rw [show ((k + 1 : Nat) : Int) = (k : Int) + 1 by omega, cutL_off Hr.out hx]; exact hC.out)
        have HO := Lib.hid ho
        have HB := Lib.hid hbw
        rw [hx] at z0
        clear hx hrb ho hbw hC
        go_wp2_with fail
        go_roundw
        case rel => exact ⟨k + 1, C, by omega, by go_num, HC.out, HO.out, HB.out⟩
        case measure => simp [intOf]; omega
      | true =>
        rw [hx] at z0
        have hw1 : IntKind.i64.wrap ((k : Int) + 1) = (k : Int) + 1 := by rw [IntKind.wrap_i64]; omega
        have HO := Lib.hid ho
        have HB := Lib.hid hbw
        obtain ⟨d, hd⟩ : ∃ d, (decide (0 < k) && isIn L ((k : Int) - 1)) = d := ⟨_, rfl⟩
        go_upto_region 6 with (fail)
        go_cut [34] from 6 to 49 (fun s34 W => s34 = .bool d ∧ W = wr)
        case first =>
          by_cases hk0 : k = 0
          · have e1 : decide (0 < k) = false := by simp; omega
            rw [e1, Bool.false_and] at hd
            subst hd
            clear hk0 hx
            go_wp2_with fail
            go_meet
            exact ⟨rfl, rfl⟩
          · have e1 : decide (0 < k) = true := by simp; omega
            obtain ⟨k', hk'⟩ : ∃ k', k = k' + 1 := ⟨k - 1, by omega⟩
            have z1 := hrb.cat k' (by omega)
            have hw5 : IntKind.i64.wrap ((k : Int) - 1) = (k' : Int) := by rw [IntKind.wrap_i64]; omega
            have hkN : k' < N := by omega
            rw [e1, Bool.true_and, show (k : Int) - 1 = (k' : Int) by omega] at hd
            rw [hd] at z1
            clear hk0 hk' hx hrb hd
            go_wp2_with fail
            go_meet
            exact ⟨rfl, rfl⟩
        case rest =>
          obtain ⟨rfl, rfl⟩ := hcut
          clear z0 c0 hrb ho hbw
          cases d with
          | true =>
            have hp : isIn L ((k : Int) - 1) = true := by
              cases hq : isIn L ((k : Int) - 1) with
              | true => rfl
              | false => rw [hq, Bool.and_false] at hd; cases hd
            obtain ⟨P, lo, p1, p2⟩ := cutL_ext Hr.out hx hp
            rw [hC.out] at p1
            have hm : C.length = P.length + 1 := by rw [p1]; simp
            have hrow := ownsRow_base (base' := 0) HO.out fun _ _ => Nat.zero_le _
            have hP : C[P.length]? = some ⟨lo, k⟩ := by rw [p1, List.getElem?_append_right (Nat.le_refl _)]; simp
            obtain ⟨g2, cap3, hv, hg2, hcc, hcl⟩ := RowR.at hrow hP
            simp only [Value.slice.injEq, true_and] at hv
            obtain ⟨rfl, rfl⟩ := hv
            have z1 := hcl 1 _ rfl
            obtain ⟨-, -, cur, hB, -⟩ := RowR.blk hrow
            have f1 := hB.frozen (P.length * 2 + 1)
            have hset := RowR.setHi hrow hP ((k : Int) + 1)
            have hC2 : C.set P.length ⟨lo, (k : Int) + 1⟩ = cutL ((k : Int) + 1) L := by rw [p1, p2, List.set_append_right _ _ (Nat.le_refl _)]; simp
            rw [hC2] at hset
            have hgb : w.heap.size ≤ g2 := (HO.out.lt g2 rfl).1
            have hl2 : (cutL ((k : Int) + 1) L).length = C.length := by rw [← hC2]; simp
            have hw2 : IntKind.i64.wrap ((C.length : Int) - 1) = (P.length : Int) := by rw [IntKind.wrap_i64]; omega
            have hmC : P.length < C.length := by omega
            have HO2 := Lib.hid (show (wc.setCell ⟨g2, P.length * 2 + 1, none⟩ (.int .i64 ((k : Int) + 1))).ownsRow w.heap.size 27 2 (.slice (some ⟨g2, 0, none⟩) C.length cap2) (cutL ((k + 1 : Nat) : Int) L).length (rrows (cutL ((k + 1 : Nat) : Int) L)) by
              rw [show ((k + 1 : Nat) : Int) = (k : Int) + 1 by omega]
              exact ownsRow_base hset fun q hq => by cases hq; exact hgb)
            have HB2 := Lib.hid (HB.out.setCell (p := ⟨g2, P.length * 2 + 1, none⟩) hgb (.int .i64 ((k : Int) + 1)))
            clear hd hx hp p1 p2 hm hrow hP hcl hB hset hC2 hl2 hg2
            go_wp2_with fail
            go_roundw
            case rel => exact ⟨k + 1, _, by omega, by go_num, Lib.hid rfl, HO2.out, HB2.out⟩
            case measure => simp [intOf]; omega
          | false =>
            have hn : cutL ((k + 1 : Nat) : Int) L = C ++ [⟨k, (k : Int) + 1⟩] := by
              rw [show ((k + 1 : Nat) : Int) = (k : Int) + 1 by omega, cutL_new Hr.out (by omega) hx ?_, hC.out]
              by_cases hk0 : k = 0
              · exact .inl (by omega)
              · rw [decide_eq_true (show 0 < k by omega), Bool.true_and] at hd
                exact .inr hd
            have HN := Lib.hid hn
            have hml : C.length + 1 ≤ maxLen := by unfold maxLen; omega
            have hbA : Below w.heap.size w (wc.alloc (.cells #[.int .i64 (k : Int), .int .i64 ((k : Int) + 1)] 27)) := HB.out.alloc HB.out.size _
            have hoA := World.ownsRow.alloc HO.out (.cells #[.int .i64 (k : Int), .int .i64 ((k : Int) + 1)] 27)
            have hcl : ∀ j u, (Rg.cells ⟨k, (k : Int) + 1⟩)[j]? = some u → (wc.alloc (.cells #[.int .i64 (k : Int), .int .i64 ((k : Int) + 1)] 27)).cell? ((⟨wc.heap.size, 0, none⟩ : Addr).add j) = some u := fun j u hj => by
              rw [Addr.add_mid, Nat.zero_add, World.cell?_alloc_new]
              simpa [Rg.cells] using hj
            have hbs : w.heap.size ≤ (wc.alloc (.cells #[.int .i64 (k : Int), .int .i64 ((k : Int) + 1)] 27)).heap.size := hbA.size
            have HOA := Lib.hid hoA
            have HBA := Lib.hid hbA
            have Hcl := Lib.hid hcl
            have O1 := one_rcells ⟨k, (k : Int) + 1⟩
            clear hd hx hn hbA hoA hcl
            go_wp2_with (refine wpList_append_own_at _ rfl (.tmp 43) (.tmp 48) 25 rfl w.heap.size 27 i0 _ 2 16 Try.underlying25 Hi.out Hz.out Hz1.out Hz2.out rfl (by decide) _ C.length (rrows C) rfl HOA.out ⟨wc.heap.size, 0, none⟩ 1 1 (Rg.cells ⟨k, (k : Int) + 1⟩) rfl rfl Hcl.out O1 hml (by omega) hbs ?_)
            intro v5 w5 hown5 hgrow hnn hor
            have hb5 : Below w.heap.size w w5 := HBA.out.trans ⟨hgrow.os, hgrow.tape, hgrow.output, hgrow.size, fun q hq => hgrow.block q (Nat.lt_of_lt_of_le hq HBA.out.size) (fun e => by have := (HOA.out.lt q e.symm).1; omega)⟩
            have HO5 := Lib.hid (show w5.ownsRow w.heap.size 27 2 v5 (cutL ((k + 1 : Nat) : Int) L).length (rrows (cutL ((k + 1 : Nat) : Int) L)) by
              rw [HN.out, List.length_append, rrows_app]; exact hown5)
            have HB5 := Lib.hid hb5
            clear hown5 hgrow hnn hor hb5
            go_wp2_with fail
            go_roundw
            case rel => exact ⟨k + 1, _, by omega, by go_num, Lib.hid rfl, HO5.out, HB5.out⟩
            case measure => simp [intOf]; omega
    · have HC := Lib.hid (show C = L by rw [← hC.out, show (k : Int) = N by omega, cutL_all Hr.out])
      have HO := Lib.hid ho
      have HB := Lib.hid hbw
      clear hrb ho hbw hC
      go_wp2_with fail
      go_ret
      exact ⟨_, rfl, by rw [← HC.out]; exact HO.out, HB.out⟩
end
end Go.Proofs.Ytajbodfdohhhoaa
