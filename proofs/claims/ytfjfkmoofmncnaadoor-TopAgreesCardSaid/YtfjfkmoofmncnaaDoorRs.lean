/- The reference's reader: wide, Code, Num, End. -/
import Derived.Test.YtfjfkmoofmncnaaDoorDc
import Derived.Test.YtfjfkmoofmncnaaDoorMe
import Derived.Deep.DeepCutAuto
import Derived.Deep.CutRange
import Derived.BigQuiet
namespace Go.Proofs.YtfjfkmoofmncnaaDoor
open Go.RowKit
theorem wrap_in (y : Int) (h1 : 0 ≤ y) (h2 : y < 9223372036854775808) : wrap64 y = y := by unfold wrap64; omega
theorem num_step (N x M : Nat) (h : M = N * 256 + x) (hM : M < 9223372036854775808) : wrap64 (wrap64 ((N : Int) * 256) + wrap64 (x : Int)) = (M : Int) := by
  rw [wrap_in ((N : Int) * 256) (by omega) (by omega), wrap_in (x : Int) (by omega) (by omega), wrap_in _ (by omega) (by omega)]
  omega
theorem leV_drop_le (l : List UInt8) (j : Nat) : leV (l.drop j) ≤ leV l := by
  induction l generalizing j with
  | nil => simp
  | cons x l ih =>
    cases j with
    | zero => exact Nat.le_refl _
    | succ j =>
      rw [List.drop_succ_cons, leV]
      have := ih j
      omega
theorem leV_at {l : List UInt8} {j : Nat} {x : UInt8} (h : l[j]? = some x) : leV (l.drop j) = leV (l.drop (j + 1)) * 256 + x.toNat := by
  have h1 := (List.getElem?_eq_some_iff.1 h).1
  have h2 : l.drop j = x :: l.drop (j + 1) := by
    rw [List.drop_eq_getElem_cons h1]
    congr 1
    exact (List.getElem?_eq_some_iff.1 h).2
  rw [h2, leV]
  omega
section
variable {w w' : World} {b i : Nat} {L : List UInt8}
set_option maxRecDepth 100000 in
theorem r1wide (d : Nat) (hd : d = 1 ∨ d = 2 ∨ d = 8) : Calls Tryd.prog 74 #[.int .i64 (d : Int)] w fun e w' => e = .returned (.bool true) ∧ w = w' := by
  rcases hd with rfl | rfl | rfl
  all_goals
    go_enter Tryd.func74, Tryd.ntmps74
    go_wp2_with fail
    go_ret
    exact ⟨rfl, rfl⟩
theorem set2_cells {W : World} {B : Nat} {u0 u1 : Value} (v0 v1 : Value) (h0 : W.cell? ⟨B, 0, none⟩ = some u0) (h1 : W.cell? ⟨B, 1, none⟩ = some u1) :
    ((W.setCell ⟨B, 0, none⟩ v0).setCell ⟨B, 1, none⟩ v1).cell? ⟨B, 0, none⟩ = some v0 ∧ ((W.setCell ⟨B, 0, none⟩ v0).setCell ⟨B, 1, none⟩ v1).cell? ⟨B, 1, none⟩ = some v1 := by
  refine ⟨?_, ?_⟩
  · rw [oth_cell _ _ _ (by omega)]; exact World.cell?_setCell_same _ _ _ h0
  · exact World.cell?_setCell_same _ _ _ (show (W.setCell ⟨B, 0, none⟩ v0).cell? ⟨B, 1, none⟩ = some u1 by rw [oth_cell _ _ _ (by omega)]; exact h1)
def flt0 : Value := .agg #[.slice none 0 0, .int .i64 0]
set_option maxRecDepth 100000 in
theorem r1code : Calls Tryd.prog 55 #[flt0] w fun e w' => e = .returned (.int .i64 0) ∧ Below w.heap.size w w' := by
  unfold flt0
  go_enter Tryd.func55, Tryd.ntmps55
  go_wp2_with fail
  go_ret
  exact ⟨rfl, (Below.refl _ _).alloc (Nat.le_refl _) _⟩
set_option maxRecDepth 100000 in
set_option maxHeartbeats 8000000 in
theorem r1num_any {d : Nat} (h : IsR w b L i) (hl : L.length ≤ 1000000) (hd : d = 1 ∨ d = 2 ∨ d = 8) (hi : i + d ≤ L.length) (hv : leV ((L.drop i).take d) < 9223372036854775808) :
    Calls Tryd.prog 54 #[.pointer (some ⟨b, 0, none⟩), .int .i64 (d : Int)] w fun e w' => e = .returned (.tuple #[.int .i64 (leV ((L.drop i).take d) : Int), flt0]) ∧ IsR w' b L (i + d) ∧ Moves (fun q => q = b) w w' := by
  have hwd := fun W => r1wide (w := W) d hd
  obtain ⟨T, hT⟩ : ∃ T, T = (L.drop i).take d := ⟨_, rfl⟩
  have htl : T.length = d := by rw [hT, List.length_take, List.length_drop]; omega
  have hta : ∀ j x, T[j]? = some x → L[i + j]? = some x := fun j x hj => by
    rw [hT] at hj
    have h1 := (List.getElem?_eq_some_iff.1 hj).1
    rw [List.length_take] at h1
    rw [List.getElem?_take, if_pos (by omega), List.getElem?_drop] at hj
    exact hj
  rw [← hT] at hv ⊢
  obtain ⟨W0, hW0⟩ : ∃ W0, W0 = w.alloc (.cells #[.slice none 0 0, .int .i64 0] 163) := ⟨_, rfl⟩
  have hb0 : Below w.heap.size w W0 := by rw [hW0]; exact (Below.refl _ _).alloc (Nat.le_refl _) _
  have hq0 : W0.cell? ⟨w.heap.size, 0, none⟩ = some (.slice none 0 0) ∧ W0.cell? ⟨w.heap.size, 1, none⟩ = some (.int .i64 0) ∧ (∀ o, W0.frozen? ⟨w.heap.size, o, none⟩ = false) ∧ w.heap.size < W0.heap.size := by
    rw [hW0]
    exact ⟨by rw [World.cell?_alloc_new]; rfl, by rw [World.cell?_alloc_new]; rfl, fun o => World.frozen?_alloc_new _ _ _ _, by simp⟩
  have HB0 := Lib.hid hb0
  have HQ0 := Lib.hid hq0
  have HW0 := Lib.hid hW0
  have H := Lib.hid h
  have HTA := Lib.hid hta
  have HTL := Lib.hid htl
  have HV := Lib.hid hv
  have HD := Lib.hid hd
  clear hT htl hta hb0 hq0 hW0 h hv hd
  have d8 : 1 ≤ d ∧ d ≤ 8 := by rcases HD.out with e | e | e <;> omega
  have c00 := (H.out.below HB0.out).c0
  have c01 := (H.out.below HB0.out).c1
  have hsz := bstr_size L
  go_enter Tryd.func54, Tryd.ntmps54
  go_upto_region 3 with (go_at_call 74; refine (hwd _).mono ?_; clear hwd; rintro e w1 ⟨rfl, hw⟩; rw [hw] at HW0; clear hw)
  rw [← HW0.out]
  clear HW0
  have hw1 : IntKind.i64.wrap ((L.length : Int) - (i : Int)) = (L.length : Int) - (i : Int) := by rw [IntKind.wrap_i64]; omega
  have e1 : decide ((L.length : Int) - (i : Int) < (d : Int)) = false := by simp; omega
  go_cut [27] from 16 to 27 (fun s27 wx => s27 = .bool false ∧ ∃ q, wx = W0.drewN q)
  case first =>
    go_quiet (fail)
    go_wp2_with fail
    go_meet
    exact ⟨rfl, _, rfl⟩
  case rest =>
    obtain ⟨rfl, q, hwq⟩ := hcut
    have hwq' := hwq
    have hb1 : Below W0.heap.size W0 wc := by rw [hwq]; exact below_drewN (Below.refl _ _) _
    have HB1 := Lib.hid (HB0.out.trans (hb1.mono HB0.out.size))
    have hq1 : wc.cell? ⟨w.heap.size, 0, none⟩ = some (.slice none 0 0) ∧ wc.cell? ⟨w.heap.size, 1, none⟩ = some (.int .i64 0) ∧ (∀ o, wc.frozen? ⟨w.heap.size, o, none⟩ = false) ∧ w.heap.size < wc.heap.size := by rw [hwq]; exact HQ0.out
    have HQ1 := Lib.hid hq1
    clear hwq hwq' hb1 hq1 HB0 HQ0 c00 c01 hw1 e1
    generalize wc = V1 at HB1 HQ1 ⊢
    have c0 := (H.out.below HB1.out).c0
    have c1 := (H.out.below HB1.out).c1
    go_upto_region 5 with (fail)
    go_cut [47] from 33 to 47 (fun s47 wx => s47 = .bool false ∧ ∃ q, wx = V1.drewN q)
    case first =>
      rcases HD.out with e | e | e
      · have e8 : ((d : Int) == 8) = false := by rw [e]; rfl
        clear e
        go_quiet (fail)
        go_wp2_with fail
        go_meet
        exact ⟨rfl, _, rfl⟩
      · have e8 : ((d : Int) == 8) = false := by rw [e]; rfl
        clear e
        go_quiet (fail)
        go_wp2_with fail
        go_meet
        exact ⟨rfl, _, rfl⟩
      · have e8 : ((d : Int) == 8) = true := by rw [e]; rfl
        obtain ⟨x, hx⟩ : ∃ x, T[7]? = some x := ⟨_, List.getElem?_eq_getElem (by rw [HTL.out]; omega)⟩
        have hx7 := HTA.out 7 x hx
        have hx127 : ¬ (127 : Int) < (x.toNat : Int) := by
          have h1 := leV_drop_le T 7
          rw [leV_at hx] at h1
          have h2 := HV.out
          have h3 : leV T = leV (T.take 7) + x.toNat * 256 ^ 7 := by
            have h4 : T = T.take 7 ++ [x] := by
              have h5 := List.take_append_drop 7 T
              have h6 : T.drop 7 = [x] := by
                rw [List.drop_eq_getElem_cons (by rw [HTL.out]; omega), (List.getElem?_eq_some_iff.1 hx).2]
                rw [List.drop_eq_nil_of_le (by rw [HTL.out]; omega)]
              rw [h6] at h5
              exact h5.symm
            have h7 := leV_snoc (T.take 7) x
            rw [← h4, List.length_take, HTL.out, e] at h7
            exact h7
          have h8 : x.toNat * 72057594037927936 ≤ leV T := by rw [h3]; exact Nat.le_add_left _ _
          omega
        have hbx : ∀ h, (bstr L)[i + 7]'h = x := fun h => byte_at L _ h x hx7
        have hil : i + 7 < (bstr L).size := by rw [bstr_size]; omega
        have hw2 : IntKind.i64.wrap ((i : Int) + 7) = (i : Int) + 7 := by rw [IntKind.wrap_i64]; omega
        have hw3 : ((i : Int) + 7).toNat = i + 7 := by omega
        have hw4 : (0 : Int) ≤ (i : Int) + 7 := by omega
        have HBX := Lib.hid hbx
        have HX127 := Lib.hid hx127
        clear hbx hx hx7 hx127 e hsz
        generalize bstr L = S at HBX c0 hil
        have hw5 : (i : Int) + 7 < (S.size : Int) := by omega
        go_quiet (fail)
        go_wp2_with fail
        go_meet
        exact ⟨congrArg Value.bool (by rw [HBX.out]; exact decide_eq_false (by have := HX127.out; omega)), _, rfl⟩
    case rest =>
      obtain ⟨rfl, q, hwq⟩ := hcut
      have hb2 : Below V1.heap.size V1 wc := by rw [hwq]; exact below_drewN (Below.refl _ _) _
      have HB2 := Lib.hid (HB1.out.trans (hb2.mono HB1.out.size))
      have hq2 : wc.cell? ⟨w.heap.size, 0, none⟩ = some (.slice none 0 0) ∧ wc.cell? ⟨w.heap.size, 1, none⟩ = some (.int .i64 0) ∧ (∀ o, wc.frozen? ⟨w.heap.size, o, none⟩ = false) ∧ w.heap.size < wc.heap.size := by rw [hwq]; exact HQ1.out
      have HQ2 := Lib.hid hq2
      clear hwq hb2 hq2 HB1 HQ1 c0 c1
      have hwd1 : wrap64 ((d : Int) - 1) = (d : Int) - 1 := by unfold wrap64; omega
      go_wp2_with fail
      go_loopw [6, 7] (fun nv iv wr => ∃ k : Nat, k ≤ d ∧ iv = .int .i64 ((d : Int) - 1 - (k : Int)) ∧ nv = .int .i64 (leV (T.drop (d - k)) : Int) ∧ Below wc.heap.size wc wr) (fun _ iv _ => (intOf iv + 1).toNat)
      case atStart => exact ⟨0, Nat.zero_le _, by simp, by rw [List.drop_eq_nil_of_le (by rw [HTL.out]; omega)]; rfl, Below.refl _ _⟩
      case round =>
        obtain ⟨k, hk, rfl, rfl, hbr⟩ := hrel
        have hR := H.out.below (HB2.out.trans (hbr.mono HB2.out.size))
        have c0 := hR.c0
        have c1 := hR.c1
        by_cases hlt : k < d
        · have e0 : decide ((0 : Int) ≤ (d : Int) - 1 - (k : Int)) = true := by simp; omega
          obtain ⟨x, hx⟩ : ∃ x, T[d - 1 - k]? = some x := ⟨_, List.getElem?_eq_getElem (by rw [HTL.out]; omega)⟩
          have hxi := HTA.out _ x hx
          have hle := leV_drop_le T (d - 1 - k)
          have hst := leV_at hx
          rw [show d - 1 - k + 1 = d - k by omega] at hst
          have hv := HV.out
          obtain ⟨j, hj⟩ : ∃ j, j = d - 1 - k := ⟨_, rfl⟩
          have hjz : (d : Int) - 1 - (k : Int) = (j : Int) := by omega
          have hkd : d - (k + 1) = j := by omega
          rw [← hj] at hxi hle hst
          have hbx : ∀ h, (bstr L)[i + j]'h = x := fun h => byte_at L _ h x hxi
          have hil : i + j < (bstr L).size := by rw [bstr_size]; omega
          have HBX := Lib.hid hbx
          obtain ⟨N, hN⟩ : ∃ N, N = leV (T.drop (d - k)) := ⟨_, rfl⟩
          obtain ⟨M, hM⟩ : ∃ M, M = leV (T.drop j) := ⟨_, rfl⟩
          rw [← hN, ← hM] at hst
          rw [← hM] at hle
          rw [← hN]
          have hxl := x.toNat_lt
          have hval : wrap64 (wrap64 ((N : Int) * 256) + wrap64 (x.toNat : Int)) = (M : Int) := num_step N x.toNat M hst (Nat.lt_of_le_of_lt hle hv)
          have hw2 : IntKind.i64.wrap ((i : Int) + (j : Int)) = (i : Int) + (j : Int) := by rw [IntKind.wrap_i64]; omega
          have hw3 : ((i : Int) + (j : Int)).toNat = i + j := by omega
          have hw4 : (0 : Int) ≤ (i : Int) + (j : Int) := by omega
          have HM := Lib.hid hM
          have HKD := Lib.hid hkd
          have HJZ := Lib.hid hjz
          have HVAL := Lib.hid hval
          have HBR := Lib.hid hbr
          have HJD : Hid ((j : Int) - 1 = (d : Int) - 1 - ((k + 1 : Nat) : Int)) := Lib.hid (by omega)
          have hwj : wrap64 ((j : Int) - 1) = (j : Int) - 1 := by unfold wrap64; omega
          rw [hjz] at e0 ⊢
          clear hbx hx hxi hsz hle hst hv hM hN hval hkd hjz hj hbr hR
          generalize bstr L = S at HBX c0 hil
          have hw5 : (i : Int) + (j : Int) < (S.size : Int) := by omega
          go_wp2_with fail
          go_quiet (fail)
          rw [HBX.out, HVAL.out]
          have HBQ := Lib.hid (HBR.out.trans (below_drewN (Below.refl wr.heap.size wr) nq |>.mono HBR.out.size))
          go_wp2_with fail
          go_roundw
          case rel => exact ⟨k + 1, by omega, by rw [← HJD.out, hwj], by rw [HKD.out, ← HM.out], HBQ.out⟩
          case measure => simp [intOf]; omega
        · have ek : k = d := by omega
          rw [ek, Nat.sub_self, List.drop_zero, show (d : Int) - 1 - (d : Int) = -1 by omega]
          have f1 := hR.fro 1
          have hbk := hbr.block w.heap.size HQ2.out.2.2.2
          have q0 := (World.cell?_of_block (a := ⟨w.heap.size, 0, none⟩) hbk).trans HQ2.out.1
          have q1 := (World.cell?_of_block (a := ⟨w.heap.size, 1, none⟩) hbk).trans HQ2.out.2.1
          have fq0 := (World.frozen?_of_block (a := ⟨w.heap.size, 0, none⟩) hbk).trans (HQ2.out.2.2.1 0)
          have fq1 := (World.frozen?_of_block (a := ⟨w.heap.size, 1, none⟩) hbk).trans (HQ2.out.2.2.1 1)
          have hw1 : wrap64 ((i : Int) + (d : Int)) = (i : Int) + (d : Int) := wrap_in _ (by omega) (by omega)
          have hP := hR.put (i + d)
          have hne : b ≠ w.heap.size := fun e => by have := H.out.lt; omega
          have hM : Moves (fun q => q = b) w (wr.setCell ⟨b, 1, none⟩ (.int .i64 ((i + d : Nat) : Int))) := (Moves.of_below (HB2.out.trans (hbr.mono HB2.out.size))).setCell ⟨b, 1, none⟩ _ (.inl rfl)
          have hQ : ∀ (W : World), IsR W b L (i + d) → Moves (fun q => q = b) w W → IsR ((W.setCell ⟨w.heap.size, 0, none⟩ (.slice none 0 0)).setCell ⟨w.heap.size, 1, none⟩ (.int .i64 0)) b L (i + d) ∧ Moves (fun q => q = b) w ((W.setCell ⟨w.heap.size, 0, none⟩ (.slice none 0 0)).setCell ⟨w.heap.size, 1, none⟩ (.int .i64 0)) := fun W h1 h2 =>
            ⟨h1.keep ((Below.heap_setCell _ _ _ _ hne).trans (Below.heap_setCell _ _ _ _ hne)), (h2.setCell ⟨w.heap.size, 0, none⟩ _ (.inr (Nat.le_refl _))).setCell ⟨w.heap.size, 1, none⟩ _ (.inr (Nat.le_refl _))⟩
          obtain ⟨W3, hW3⟩ : ∃ W3, W3 = wr.setCell ⟨b, 1, none⟩ (.int .i64 ((i + d : Nat) : Int)) := ⟨_, rfl⟩
          rw [← hW3] at hP hM
          have q30 : W3.cell? ⟨w.heap.size, 0, none⟩ = some (.slice none 0 0) := by rw [hW3, oth_blk _ _ _ _ (Ne.symm hne)]; exact q0
          have q31 : W3.cell? ⟨w.heap.size, 1, none⟩ = some (.int .i64 0) := by rw [hW3, oth_blk _ _ _ _ (Ne.symm hne)]; exact q1
          have f30 : W3.frozen? ⟨w.heap.size, 0, none⟩ = false := by rw [hW3, World.frozen?_setCell]; exact fq0
          have f31 : W3.frozen? ⟨w.heap.size, 1, none⟩ = false := by rw [hW3, World.frozen?_setCell]; exact fq1
          have HF := Lib.hid (hQ W3 hP hM)
          have HW3 := Lib.hid hW3
          obtain ⟨VT, hVT⟩ : ∃ VT, VT = leV T := ⟨_, rfl⟩
          rw [← hVT]
          have HVT := Lib.hid hVT
          clear hQ hP hM hW3 hbr hR hbk ek hVT
          go_upto_region 13 with (fail)
          rw [show wr.setCell ⟨b, 1, none⟩ (.int .i64 ((i : Int) + (d : Int))) = W3 from HW3.out.symm]
          clear c0 c1 f1 q0 q1 fq0 fq1 HW3 hne
          go_wp2_with fail
          obtain ⟨z0, z1⟩ := set2_cells (.slice none 0 0) (.int .i64 0) q30 q31
          refine bodyPost_ret (v := .tuple #[.int .i64 (VT : Int), flt0]) (by unfold flt0; simp [results, Tryd.results54, go_sem, z0, z1]) rfl ?_
          exact ⟨by rw [HVT.out], HF.out.1, HF.out.2⟩
set_option maxRecDepth 100000 in
set_option maxHeartbeats 4000000 in
theorem r1end_any (h : IsR w b L i) (hi : i = L.length) : Calls Tryd.prog 56 #[.pointer (some ⟨b, 0, none⟩)] w fun e w' => e = .returned flt0 ∧ Below w.heap.size w w' := by
  obtain ⟨W0, hW0⟩ : ∃ W0, W0 = w.alloc (.cells #[.slice none 0 0, .int .i64 0] 163) := ⟨_, rfl⟩
  have hb0 : Below w.heap.size w W0 := by rw [hW0]; exact (Below.refl _ _).alloc (Nat.le_refl _) _
  have hq0 : W0.cell? ⟨w.heap.size, 0, none⟩ = some (.slice none 0 0) ∧ W0.cell? ⟨w.heap.size, 1, none⟩ = some (.int .i64 0) ∧ (∀ o, W0.frozen? ⟨w.heap.size, o, none⟩ = false) := by
    rw [hW0]
    exact ⟨by rw [World.cell?_alloc_new]; rfl, by rw [World.cell?_alloc_new]; rfl, fun o => World.frozen?_alloc_new _ _ _ _⟩
  obtain ⟨q0, q1, fq⟩ := hq0
  have hR := h.below hb0
  have c0 := hR.c0
  have c1 := hR.c1
  have hsz := bstr_size L
  have fq0 := fq 0
  have fq1 := fq 1
  have e1 : ¬ i < L.length := by omega
  have HB0 := Lib.hid hb0
  have HW0 := Lib.hid hW0
  clear h hb0 hW0 hR fq hi
  go_enter Tryd.func56, Tryd.ntmps56
  go_upto_region 1 with (fail)
  rw [← HW0.out]
  clear HW0
  go_quiet (fail)
  have HBF : Hid (Below w.heap.size w ((((W0.drewN nq).setCell ⟨w.heap.size, 0, none⟩ (.slice none 0 0)).setCell ⟨w.heap.size, 1, none⟩ (.int .i64 0)))) := Lib.hid ((((Moves.of_below (F := fun _ => False) (below_drewN HB0.out nq)).setCell ⟨w.heap.size, 0, none⟩ _ (.inr (Nat.le_refl _))).setCell ⟨w.heap.size, 1, none⟩ _ (.inr (Nat.le_refl _))).below (Nat.le_refl _) fun k h => h.elim)
  have q0' : (W0.drewN nq).cell? ⟨w.heap.size, 0, none⟩ = some (.slice none 0 0) := q0
  have q1' : (W0.drewN nq).cell? ⟨w.heap.size, 1, none⟩ = some (.int .i64 0) := q1
  have fq0' : (W0.drewN nq).frozen? ⟨w.heap.size, 0, none⟩ = false := fq0
  have fq1' : (W0.drewN nq).frozen? ⟨w.heap.size, 1, none⟩ = false := fq1
  generalize W0.drewN nq = W1 at HBF q0' q1' fq0' fq1' ⊢
  clear q0 q1 fq0 fq1 c0 c1 hsz
  go_wp2_with fail
  obtain ⟨z0, z1⟩ := set2_cells (.slice none 0 0) (.int .i64 0) q0' q1'
  refine bodyPost_ret (v := flt0) (by unfold flt0; simp [results, Tryd.results56, go_sem, z0, z1]) rfl ?_
  exact ⟨rfl, HBF.out⟩
end
end Go.Proofs.YtfjfkmoofmncnaaDoor
