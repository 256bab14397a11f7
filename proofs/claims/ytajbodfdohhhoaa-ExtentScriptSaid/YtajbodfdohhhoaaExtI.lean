/- Delete of one range. -/
import Derived.Test.YtajbodfdohhhoaaExtH
namespace Go.Proofs.Ytajbodfdohhhoaa
open Go.RowKit
/-- The cells of a row out of which one is cut. -/
theorem del_cells {L : List Rg} {cur zs : List Value} {cap k : Nat} (hc : cur.length = cap * 2) (hn : L.length ≤ cap) (hk : k < L.length) (ht : cur.take (L.length * 2) = rrows L) (hz : zs.length = 2) :
    (over (over cur (k * 2) (rrows (L.drop (k + 1)))) ((L.length - 1) * 2) zs).take ((L.eraseIdx k).length * 2) = rrows (L.eraseIdx k) := by
  have hl : (L.eraseIdx k).length = L.length - 1 := List.length_eraseIdx_of_lt hk
  have hd : (rrows (L.drop (k + 1))).length = (L.length - (k + 1)) * 2 := by rw [length_rrows, List.length_drop]
  have ht2 : (rrows (L.take k)).length = k * 2 := by rw [length_rrows, List.length_take]; omega
  have h1 : (over cur (k * 2) (rrows (L.drop (k + 1)))).length = cap * 2 := by rw [over_len _ _ _ (by rw [hd, hc]; omega), hc]
  rw [hl, List.eraseIdx_eq_take_drop_succ, rrows_app]
  apply List.ext_getElem?
  intro j
  rw [List.getElem?_take, over_get _ _ _ (by rw [hz, h1]; omega), over_get _ _ _ (by rw [hd, hc]; omega), hd, hz]
  by_cases j0 : j < (L.length - 1) * 2
  · rw [if_pos j0, if_pos j0]
    by_cases j1 : j < k * 2
    · rw [if_pos j1, List.getElem?_append_left (by omega), rrows_take, ← ht, List.getElem?_take, List.getElem?_take, if_pos j1, if_pos (by omega)]
    · rw [if_neg j1, if_pos (by omega), List.getElem?_append_right (by omega), ht2]
  · rw [if_neg j0, List.getElem?_eq_none (by rw [List.length_append, ht2, hd]; omega)]
section
variable {w : World}
set_option maxRecDepth 100000 in
set_option maxHeartbeats 4000000 in
theorem del_any {g cap : Nat} {L : List Rg} (h : RowR w (.slice (some ⟨g, 0, none⟩) L.length cap) L) (hl : L.length ≤ 10000) {k : Nat} (hk : k < L.length) :
    Calls Try.prog 30 #[.slice (some ⟨g, 0, none⟩) L.length cap, .int .i64 (k : Int), .int .i64 ((k : Int) + 1)] w fun e w' =>
      e = .returned (.slice (some ⟨g, 0, none⟩) (L.eraseIdx k).length cap) ∧ RowR w' (.slice (some ⟨g, 0, none⟩) (L.eraseIdx k).length cap) (L.eraseIdx k) ∧ Moves (fun q => q = g) w w' := by
  obtain ⟨-, hcl, cur, hB, hcur⟩ := h.blk
  have hcm := hB.2.2
  unfold maxLen at hcm
  obtain ⟨i0, hi0, hz0, hz1, hz2⟩ := info_parts Try.infoRg
  have Hi := Lib.hid hi0
  have Hz1 := Lib.hid hz1
  have hel : (L.eraseIdx k).length = k + (L.length - (k + 1)) := by rw [List.length_eraseIdx_of_lt hk]; omega
  have hdl : (rrows (L.drop (k + 1))).length = (L.length - (k + 1)) * 2 := by rw [length_rrows, List.length_drop]
  have hcells := World.ownsRow.cells h rfl
  obtain ⟨A, hA, hsrc⟩ : ∃ A : Addr, (if cap = k + 1 then (some (⟨g, 0, none⟩ : Addr)) else some ⟨g, (k + 1) * 2, none⟩) = some A ∧ Hid (∀ t u, (rrows (L.drop (k + 1)))[t]? = some u → w.drew.cell? (A.add t) = some u) := by
    by_cases hc : cap = k + 1
    · refine ⟨⟨g, 0, none⟩, by rw [if_pos hc], Lib.hid fun t u hu => ?_⟩
      rw [List.drop_eq_nil_of_le (by omega)] at hu
      simp [rrows] at hu
    · refine ⟨⟨g, (k + 1) * 2, none⟩, by rw [if_neg hc], Lib.hid fun t u hu => ?_⟩
      rw [rrows_drop, List.getElem?_drop] at hu
      have := hcells _ u hu
      rw [Addr.add_mid] at this ⊢
      rwa [Nat.zero_add] at this
  have hB0 : Blk w.drew g cap cur := hB
  have s3 : Hid (∀ t, t < (rrows (L.drop (k + 1))).length → (w.drew.cell? ⟨g, 0 + k * 2 + t, none⟩).isSome = true ∧ w.drew.frozen? ⟨g, 0 + k * 2 + t, none⟩ = false) := Lib.hid fun t ht => by
    rw [hdl] at ht
    exact ⟨hB0.some (by omega), hB0.frozen _⟩
  have s1 := Lib.hid hdl
  have s2 := Lib.hid (one_rrows (L.drop (k + 1)))
  have hB1 := hB0.setCells (k * 2) (rrows (L.drop (k + 1))) (by rw [hdl]; omega)
  obtain ⟨W1, hW1⟩ : ∃ W1, W1 = w.drew.setCells g (0 + k * 2) (rrows (L.drop (k + 1))) := ⟨_, rfl⟩
  have hW1' : W1 = w.drew.setCells g (k * 2) (rrows (L.drop (k + 1))) := by rw [hW1, Nat.zero_add]
  rw [← hW1'] at hB1
  have hclr : ∀ ty c, (Builtin.clear_ #[25] ty #[.slice (some ⟨g, (k + (L.length - (k + 1))) * 2, none⟩) (L.length - (k + (L.length - (k + 1)))) c]).run Try.prog W1 = .ok (.tuple #[]) (W1.setCells g ((L.length - 1) * 2) (zrs 1)) := fun ty c => by
    rw [show k + (L.length - (k + 1)) = L.length - 1 by omega, show L.length - (L.length - 1) = 1 by omega]
    exact run_clear_rg W1 _ _ ty Try.underlying25 Try.zeroRg g ((L.length - 1) * 2) 1 c (by decide) (fun j hj => hB1.some (by omega)) (fun j _ => hB1.frozen _)
  have hB2 := hB1.setCells ((L.length - 1) * 2) (zrs 1) (by rw [len_zrs]; omega)
  have hfin : RowR (W1.setCells g ((L.length - 1) * 2) (zrs 1)) (.slice (some ⟨g, 0, none⟩) (L.eraseIdx k).length cap) (L.eraseIdx k) :=
    hB2.row (by rw [hel]; omega) (del_cells hB.2.1 hcl hk hcur (len_zrs 1))
  have hM : Moves (fun q => q = g) w (W1.setCells g ((L.length - 1) * 2) (zrs 1)) := by
    rw [hW1']
    refine Moves.setCells ?_ g _ _ (.inl rfl)
    refine Moves.setCells ?_ g _ _ (.inl rfl)
    exact (Moves.refl _ w).drew
  have Hfin := Lib.hid hfin
  have HM := Lib.hid hM
  have HW1 := Lib.hid hW1
  have Hclr := Lib.hid hclr
  have HEL := Lib.hid hel
  have hk2 : (k : Int) + 1 ≤ (L.length : Int) := by omega
  have hk3 : (L.length : Int) ≤ (cap : Int) := by omega
  have hk4 : ((k : Int) + 1).toNat = k + 1 := by omega
  have hk5 : (0 : Int) ≤ (k : Int) + 1 := by omega
  have hk6 : (k : Int) ≤ (cap : Int) := by omega
  have hk7 : (k : Int) ≤ (k : Int) + 1 := by omega
  have hk8 : ((k : Int) == (k : Int) + 1) = false := beq_eq_false_iff_ne.2 (by omega)
  clear hi0 hz0 hz1 hz2 hel hdl hcells hB hcur hB0 hB1 hW1 hW1' hclr hB2 hfin hM h
  go_enter Try.func30, Try.ntmps30
  go_wp2_with fail
  go_region_law (refine step_append_room rfl (.tmp 22) (.tmp 25) 25 rfl 27 i0 2 Try.underlying25 Hi.out Hz1.out g 0 k cap (by simp [Act.eval, Act.put]) A (L.length - (k + 1)) (cap - (k + 1)) (rrows (L.drop (k + 1))) (by simp [Act.eval, Act.put]) s1.out hsrc.out s2.out (by omega) s3.out ?_; rw [← HW1.out])
  all_goals
    have hclr2 := Hclr.out
    have hm1 : ((k + (L.length - (k + 1)) : Nat) : Int) ≤ (L.length : Int) := by omega
    have hm2 : ¬ (cap = k + (L.length - (k + 1))) := by omega
    go_wp2_with fail
    go_ret
    refine ⟨by rw [HEL.out]; rfl, Hfin.out, HM.out⟩
end
end Go.Proofs.Ytajbodfdohhhoaa
