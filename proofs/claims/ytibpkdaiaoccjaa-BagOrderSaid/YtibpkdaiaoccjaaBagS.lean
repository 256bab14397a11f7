/- The reference's Twice; Same, where both are the same. -/
import Derived.Test.YtibpkdaiaoccjaaBagR
namespace Go.Proofs.Ytibpkdaiaoccjaa
open Go.RowKit
theorem row_at {w : World} {base : Nat} {v : Value} {l : List Ms} (h : w.ownsRow base 23 8 v l.length (mrows l)) {k : Nat} {m : Ms} (hk : l[k]? = some m) :
    ∃ g cap, v = .slice (some ⟨g, 0, none⟩) l.length cap ∧ g < w.heap.size ∧ ∀ j x, m.cells[j]? = some x → w.cell? ⟨g, k * 8 + j, none⟩ = some x := by
  have hkl := (List.getElem?_eq_some_iff.1 hk).1
  rcases ownsRow_form h with ⟨-, h1⟩ | ⟨g, cap, rfl, -, hg, -⟩
  · have := h1.1; omega
  · refine ⟨g, cap, rfl, hg, fun j x hj => ?_⟩
    have hj8 : j < 8 := (List.getElem?_eq_some_iff.1 hj).1
    rw [h.cellAt (k * 8 + j) (by omega)]
    exact mrows_at l k m hk j x hj
theorem row_len {w : World} {base : Nat} {v : Value} {n : Nat} {xs : List Value} (h : w.ownsRow base 23 8 v n xs) : ∃ a cap, v = .slice a n cap := by
  rcases ownsRow_form h with ⟨h0, h1⟩ | ⟨g, cap, h0, _⟩
  · exact ⟨none, 0, by rw [h0, h1.1]⟩
  · exact ⟨_, _, h0⟩
section
variable {w : World} {b : Nat} {v : Value} {l : List Ms}
set_option maxRecDepth 100000 in
set_option maxHeartbeats 1000000 in
theorem rtwice_any (h : Has w b v l) (hl : l.length ≤ 64) (hck : ∀ m ∈ l, m.check = 0) (i : Int) :
    Calls Try.prog 15 #[.pointer (some ⟨b, 0, none⟩), .int .i64 i] w fun e w' => e = .returned (.int .i64 (twiceE l i)) ∧ Turned w b v (twiceL l i) w' := by
  have hh := rhas_any h i
  cases hB : atB l i
  · have e1 : twiceL l i = l := by simp [twiceL, hB]
    have e2 : twiceE l i = 3 := by simp [twiceE, hB]
    rw [hB] at hh
    rw [e1, e2]
    clear e1 e2 hB
    go_enter Try.func15, Try.ntmps15
    go_wp2_with fail
    refine hh.mono ?_
    rintro e w1 ⟨rfl, rfl⟩
    go_wp2_with fail
    go_ret
    exact ⟨rfl, .refl h⟩
  · obtain ⟨hmem, _⟩ := atM_mem hB
    have hMf := h.fits _ hmem
    have hMc := hck _ hmem
    have e1 : twiceL l i = sendS l (atM l i) := by simp [twiceL, sendS, hB, hMc]
    have e2 : twiceE l i = sendE l (atM l i) := by simp [twiceE, sendE, hB, hMc]
    have h0 : 0 ≤ i ∧ i < (l.length : Int) := by
      have := hB
      unfold atB at this
      simpa using this
    obtain ⟨n, rfl⟩ := Int.eq_ofNat_of_zero_le h0.1
    have hn : n < l.length := by omega
    have hm : l[n]? = some (atM l (n : Int)) := by
      rw [atM, if_pos h0.1]
      simp [List.getD_eq_getElem?_getD, List.getElem?_eq_getElem hn]
    have hs := rsend_any h hl _ hMf
    rw [hB] at hh
    rw [e1, e2]
    generalize atM l (n : Int) = M at hm hs ⊢
    have c0 := h.c0
    obtain ⟨g, cap, rfl, hg, hc⟩ := h.at hm
    have q0 := hc 0 _ rfl
    have q1 := hc 1 _ rfl
    have q2 := hc 2 _ rfl
    have q3 := hc 3 _ rfl
    have q4 := hc 4 _ rfl
    have q5 := hc 5 _ rfl
    have q6 := hc 6 _ rfl
    have q7 := hc 7 _ rfl
    rw [Nat.add_zero] at q0
    clear e1 e2 hB hmem hMc hm hc hck hMf
    go_enter Try.func15, Try.ntmps15
    go_wp2_with fail
    refine hh.mono ?_
    rintro e w1 ⟨rfl, rfl⟩
    clear hh
    go_wp2_with fail
    refine hs.mono ?_
    rintro e w2 ⟨rfl, hT⟩
    have HT := Lib.hid hT
    clear hs hT q0 q1 q2 q3 q4 q5 q6 q7
    go_wp2_with fail
    go_ret
    exact ⟨rfl, HT.out⟩
set_option maxRecDepth 100000 in
set_option maxHeartbeats 2000000 in
theorem same_any {b1 b2 : Nat} {v1 v2 : Value} (h1 : w.ownsRow b1 23 8 v1 l.length (mrows l)) (h2 : w.ownsRow b2 23 8 v2 l.length (mrows l)) (hl : l.length ≤ 1000) :
    Calls Try.prog 16 #[v1, v2] w fun e w' => e = .returned (.bool true) ∧ Below w.heap.size w w' := by
  have hr1 : ∀ wr, Below w.heap.size w wr → wr.ownsRow b1 23 8 v1 l.length (mrows l) := fun wr hb => ownsRow_keep h1 fun k hk => hb.block k (h1.lt k hk).2
  have hr2 : ∀ wr, Below w.heap.size w wr → wr.ownsRow b2 23 8 v2 l.length (mrows l) := fun wr hb => ownsRow_keep h2 fun k hk => hb.block k (h2.lt k hk).2
  obtain ⟨a1, cap1, rfl⟩ := row_len h1
  obtain ⟨a2, cap2, rfl⟩ := row_len h2
  have H1 := Lib.hid hr1
  have H2 := Lib.hid hr2
  clear hr1 hr2 h1 h2
  go_enter Try.func16, Try.ntmps16
  go_wp2_with fail
  go_loopw [5] (fun i wr => ∃ k : Nat, k ≤ l.length ∧ i = .int .i64 (k : Int) ∧ Below w.heap.size w wr) (fun i _ => l.length - (intOf i).toNat)
  case atStart => exact ⟨0, Nat.zero_le _, rfl, Below.refl _ _⟩
  case round =>
    obtain ⟨k, hk, rfl, hb⟩ := hrel
    by_cases hlt : k < l.length
    · obtain ⟨m, hm⟩ : ∃ m, l[k]? = some m := ⟨_, List.getElem?_eq_getElem hlt⟩
      obtain ⟨g1, c1, hv1, -, hc1⟩ := row_at (H1.out wr hb) hm
      obtain ⟨g2, c2, hv2, -, hc2⟩ := row_at (H2.out wr hb) hm
      simp only [Value.slice.injEq] at hv1 hv2
      obtain ⟨rfl, -, -⟩ := hv1
      obtain ⟨rfl, -, -⟩ := hv2
      have q0 := hc1 0 _ rfl
      have q1 := hc1 1 _ rfl
      have q2 := hc1 2 _ rfl
      have q3 := hc1 3 _ rfl
      have q4 := hc1 4 _ rfl
      have q5 := hc1 5 _ rfl
      have q6 := hc1 6 _ rfl
      have q7 := hc1 7 _ rfl
      have r0 := hc2 0 _ rfl
      have r1 := hc2 1 _ rfl
      have r2 := hc2 2 _ rfl
      have r3 := hc2 3 _ rfl
      have r4 := hc2 4 _ rfl
      have r5 := hc2 5 _ rfl
      have r6 := hc2 6 _ rfl
      have r7 := hc2 7 _ rfl
      rw [Nat.add_zero] at q0 r0
      have HB := Lib.hid hb
      clear hm hc1 hc2 hb
      go_wp2_with fail
      go_quiet (fail)
      have hb2 : Below w.heap.size w (wr.drewN nq) := HB.out.trans ⟨rfl, rfl, rfl, Nat.le_refl _, fun _ _ => rfl⟩
      clear q0 q1 q2 q3 q4 q5 q6 q7 r0 r1 r2 r3 r4 r5 r6 r7 HB
      go_wp2_with fail
      go_roundw
      case rel => exact ⟨k + 1, by omega, by go_num, hb2⟩
      case measure => simp [intOf]; omega
    · go_wp2_with fail
      go_ret
      exact ⟨rfl, hb⟩
end
end Go.Proofs.Ytibpkdaiaoccjaa
