/- BagScript: its walk. -/
import Derived.Test.YtibpkdaiaoccjaaDoes
import Derived.Test.YtibpkdaiaoccjaaHeavy
namespace Go.Proofs.Ytibpkdaiaoccjaa
open Go.RowKit
theorem irow_len' {w : World} {base : Nat} {v : Value} {n : Nat} {xs : List Value} (h : w.ownsRow base 3 1 v n xs) : ∃ a cap, v = .slice a n cap := by
  rcases ownsRow_form h with ⟨h0, h1⟩ | ⟨g, cap, h0, _⟩
  · exact ⟨none, 0, by rw [h0, h1.1]⟩
  · exact ⟨_, _, h0⟩
theorem irow_at' {w : World} {base : Nat} {v : Value} {P : List Nat} (h : w.ownsRow base 3 1 v P.length (icells P)) {c q : Nat} (hq : P[c]? = some q) :
    ∃ g cap, v = .slice (some ⟨g, 0, none⟩) P.length cap ∧ w.cell? ⟨g, c, none⟩ = some (.int .i64 (q : Int)) := by
  have hc := (List.getElem?_eq_some_iff.1 hq).1
  rcases ownsRow_form h with ⟨-, h1⟩ | ⟨g, cap, rfl, -, hg, -⟩
  · have := h1.1; omega
  · refine ⟨g, cap, rfl, ?_⟩
    rw [h.cellAt c (by omega)]
    simp [icells, List.getElem?_map, hq]
set_option maxRecDepth 100000 in
set_option maxHeartbeats 2000000 in
theorem ints_any {w : World} {b1 b2 : Nat} {v1 v2 : Value} {P : List Nat} (h1 : w.ownsRow b1 3 1 v1 P.length (icells P)) (h2 : w.ownsRow b2 3 1 v2 P.length (icells P)) (hl : P.length ≤ 1000) :
    Calls Try.prog 24 #[v1, v2] w fun e w' => e = .returned (.bool true) ∧ Below w.heap.size w w' := by
  have hr1 : ∀ wr, Below w.heap.size w wr → wr.ownsRow b1 3 1 v1 P.length (icells P) := fun wr hb => ownsRow_keep h1 fun k hk => hb.block k (h1.lt k hk).2
  have hr2 : ∀ wr, Below w.heap.size w wr → wr.ownsRow b2 3 1 v2 P.length (icells P) := fun wr hb => ownsRow_keep h2 fun k hk => hb.block k (h2.lt k hk).2
  obtain ⟨a1, cap1, rfl⟩ := irow_len' h1
  obtain ⟨a2, cap2, rfl⟩ := irow_len' h2
  have H1 := Lib.hid hr1
  have H2 := Lib.hid hr2
  clear hr1 hr2 h1 h2
  go_enter Try.func24, Try.ntmps24
  go_wp2_with fail
  go_loopw [5] (fun i wr => ∃ k : Nat, k ≤ P.length ∧ i = .int .i64 (k : Int) ∧ Below w.heap.size w wr) (fun i _ => P.length - (intOf i).toNat)
  case atStart => exact ⟨0, Nat.zero_le _, rfl, Below.refl _ _⟩
  case round =>
    obtain ⟨k, hk, rfl, hb⟩ := hrel
    by_cases hlt : k < P.length
    · obtain ⟨q, hq⟩ : ∃ q, P[k]? = some q := ⟨_, List.getElem?_eq_getElem hlt⟩
      obtain ⟨g1, c1, hv1, d1⟩ := irow_at' (H1.out wr hb) hq
      obtain ⟨g2, c2, hv2, d2⟩ := irow_at' (H2.out wr hb) hq
      simp only [Value.slice.injEq] at hv1 hv2
      obtain ⟨rfl, -, -⟩ := hv1
      obtain ⟨rfl, -, -⟩ := hv2
      have HB := Lib.hid hb
      clear hq hb
      go_wp2_with fail
      go_quiet (fail)
      have hb2 : Below w.heap.size w (wr.drewN nq) := HB.out.trans ⟨rfl, rfl, rfl, Nat.le_refl _, fun _ _ => rfl⟩
      clear d1 d2 HB
      go_wp2_with fail
      go_roundw
      case rel => exact ⟨k + 1, by omega, by go_num, hb2⟩
      case measure => simp [intOf]; omega
    · go_wp2_with fail
      go_ret
      exact ⟨rfl, hb⟩
set_option maxRecDepth 100000 in
set_option maxHeartbeats 8000000 in
theorem bagscript_any {v : Value} {l : List Stp} {w : World} (ha : ArgRow w v 10 (l.map Stp.cells)) (hf : ∀ s ∈ l, s.fits) (z : Int) :
    Calls Try.prog 8 #[v, .int .i64 z] w fun e w' => e = .returned (.bool true) ∧ Below w.heap.size w w' := by
  obtain ⟨base, cap, rfl, hm⟩ := ha.slice
  unfold maxLen at hm
  have hhv := heavy_any ha
  have hst : ∀ wr, Below w.heap.size w wr → ∀ k s, l[k]? = some s → _ := fun wr hb k s hk => (ha.below hb).step (k := k) (s := s) hk
  have Hst := Lib.hid hst
  have Hf := Lib.hid hf
  clear hst ha hf
  go_enter Try.func8, Try.ntmps8
  go_wp2_with fail
  refine hhv.mono ?_
  rintro e w1 ⟨B, rfl, -, rfl⟩
  clear hhv
  cases B
  case true =>
    go_wp2_with fail
    go_ret
    exact ⟨rfl, Below.refl _ _⟩
  go_wp2_with fail
  refine (bnew_any (w := w)).mono ?_
  rintro e w1 ⟨rfl, hbag, hbe⟩
  have hB := BB.made (w0 := w) (K := fun _ => False) (B := w.heap.size) (Nat.le_refl _) (Below.refl _ _) (fun k hk => hk.elim) hbag hbe
  have htk := hB.take (Nat.zero_le _) 0
  rw [show atM ([] : List Ms) 0 = Ms.zero from rfl, show atB ([] : List Ms) 0 = false from rfl, show takeL ([] : List Ms) 0 = [] from rfl] at htk
  simp only [Bool.false_eq_true, if_false] at htk
  unfold Ms.val at htk
  clear hbag hbe hB
  go_wp2_with fail
  refine htk.mono ?_
  rintro e w2 ⟨rfl, hp2⟩
  have HP2 := Lib.hid (hp2.quiet ((Below.refl _ _).alloc (Nat.le_refl _) (.cells Ms.zero.cells.toArray 23)))
  clear htk hp2
  go_wp2_with fail
  generalize w1.heap.size = c at HP2 ⊢
  go_loopw [9] (fun i wr => ∃ (k : Nat) (L : List Ms), k ≤ l.length ∧ i = .int .i64 (k : Int) ∧ BB ⟨w.heap.size, w, fun _ => False, w⟩ wr w.heap.size c L L ∧ good L) (fun i _ => l.length - (intOf i).toNat)
  case atStart => exact ⟨0, [], Nat.zero_le _, rfl, HP2.out, good.nil⟩
  case round =>
    clear HP2
    obtain ⟨k, L, hk, rfl, hp, hg⟩ := hrel
    by_cases hlt : k < l.length
    · obtain ⟨s, hs⟩ : ∃ s, l[k]? = some s := ⟨_, List.getElem?_eq_getElem hlt⟩
      obtain ⟨b, off, cap', hv, hbl, hc⟩ := Hst.out wr hp.below k s hs
      simp only [Value.slice.injEq, true_and] at hv
      obtain ⟨rfl, rfl⟩ := hv
      have hsf := Hf.out s (List.mem_of_getElem? hs)
      have q0 := hc 0 _ rfl
      rw [Nat.add_zero] at q0
      have q1 := hc 1 _ rfl
      have q2 := hc 2 _ rfl
      have q3 := hc 3 _ rfl
      have q4 := hc 4 _ rfl
      have q5 := hc 5 _ rfl
      have q6 := hc 6 _ rfl
      have q7 := hc 7 _ rfl
      have q8 := hc 8 _ rfl
      have q9 := hc 9 _ rfl
      have hd := does_any hp.drew hg s hsf
      have hg2 := stepL_good hg hsf
      generalize stepL L s = L2 at hd hg2
      unfold Stp.val at hd
      have hl1000 : L2.length ≤ 1000 := Nat.le_trans hg2.1 (by omega)
      clear hc hs hp hg
      go_wp2_with fail
      go_region_law (first
        | (go_simp
           go_at_call 23
           refine hd.mono ?_
           rintro e w3 ⟨rfl, hp3⟩
           obtain ⟨vr, c3, hr3⟩ := hp3.ref
           obtain ⟨ar, capr, rfl⟩ := row_len hr3)
        | (go_simp
           go_at_call 12
           refine (hp3.list hl1000).mono ?_
           rintro e w4 ⟨v4, rfl, ho4, hp4, hb4⟩
           obtain ⟨a4, cap4, rfl⟩ := row_len ho4
           have c4 : w4.cell? ⟨c, 0, none⟩ = some (.slice ar L2.length capr) := (World.cell?_of_block (a := ⟨c, 0, none⟩) (hb4.block c (World.block_lt_of_cell? w3 _ c3))).trans c3
           have hr4 := ownsRow_keep hr3 fun k hk => hb4.block k (hr3.lt k hk).2
           have hsm := same_any ho4 hr4 hl1000)
        | (go_simp
           go_at_call 16
           refine hsm.mono ?_
           rintro e w5 ⟨rfl, hb5⟩))
      all_goals
        have HP := Lib.hid (hp4.quiet hb5)
        clear hd hp3 hp4 c3 c4 hb4 ho4 hr3 hr4 hb5 hsm q0 q1 q2 q3 q4 q5 q6 q7 q8 q9
        go_wp2_with fail
        go_roundw
        case rel => exact ⟨k + 1, L2, by omega, by go_num, HP.out, hg2⟩
        case measure => simp [intOf]; omega
    · have hl1000 : L.length ≤ 1000 := Nat.le_trans hg.1 (by omega)
      have hfo := hp.fors hl1000 z
      have hPl := forI_len z L 0
      clear hp hg Hst Hf
      go_wp2_with fail
      refine hfo.mono ?_
      rintro e w3 ⟨v3, rfl, ho3, hp3, hb3⟩
      obtain ⟨a3, cap3, rfl⟩ := irow_len' ho3
      have hrf := hp3.rfors hl1000 z
      have Ho3 := Lib.hid ho3
      clear hfo ho3 hp3 hb3
      go_wp2_with fail
      refine hrf.mono ?_
      rintro e w4 ⟨v4, rfl, ho4, hp4, hb4⟩
      obtain ⟨a4, cap4, rfl⟩ := irow_len' ho4
      have hin := ints_any (ownsRow_keep Ho3.out fun k hk => hb4.block k (Ho3.out.lt k hk).2) ho4 (by omega)
      have HP4 := Lib.hid hp4
      clear hrf ho4 hp4 hb4 Ho3
      go_wp2_with fail
      refine hin.mono ?_
      rintro e w5 ⟨rfl, hb5⟩
      have HQ := Lib.hid (HP4.out.quiet hb5).below
      clear hin hb5
      go_wp2_with fail
      go_ret
      exact ⟨rfl, HQ.out⟩
end Go.Proofs.Ytibpkdaiaoccjaa
