/- ExtentFirst: its walk. The loop of the calls is printed by gen_ext.py. -/
import Derived.Test.YtajbodfdohhhoaaExtS
import Derived.Test.YtajbodfdohhhoaaFirstPlain
namespace Go.Proofs.Ytajbodfdohhhoaa
open Go.RowKit
theorem go12 {kk : Nat} (h : kk < 256) : ∃ n : Int, wrap64 (1 + (wrap64 (kk : Int)).tmod 12) = n ∧ 1 ≤ n ∧ n ≤ 12 := by
  have e1 : wrap64 (kk : Int) = (kk : Int) := by unfold wrap64; omega
  have e2 : (kk : Int).tmod 12 = ((kk % 12 : Nat) : Int) := by rw [Int.tmod_eq_emod_of_nonneg (Int.natCast_nonneg _)]; omega
  refine ⟨1 + ((kk % 12 : Nat) : Int), ?_, by omega, by omega⟩
  rw [e1, e2]
  unfold wrap64; omega
set_option maxRecDepth 100000 in
set_option maxHeartbeats 8000000 in
theorem extentfirst_any {v : Value} {l : List Stp} {w : World} (ha : ArgRow w v 4 (l.map Stp.cells)) (kk : Nat) (hkk : kk < 256) :
    Calls Try.prog 4 #[v, .int .u8 (kk : Int)] w fun e w' => e = .returned (.bool true) ∧ Below w.heap.size w w' := by
  obtain ⟨base, cap, rfl, hm⟩ := ha.slice
  unfold maxLen at hm
  have Hkk := Lib.hid hkk
  clear hkk
  have hst : ∀ wr, Below w.heap.size w wr → ∀ k s, l[k]? = some s → _ := fun wr hb k s hk => (ha.below hb).step (k := k) (s := s) hk
  have Hst := Lib.hid hst
  clear hst ha
  have hn := MS.new (wr := w) w (fun _ => False) (Below.refl _ _) (fun _ h => h.elim) 50
  have Hn := Lib.hid hn
  clear hn
  by_cases hlen : (60 : Int) < (l.length : Int)
  · have e1 : decide ((60 : Int) < (l.length : Int)) = true := by simpa using hlen
    go_enter Try.func4, Try.ntmps4
    go_wp2_with fail
    go_ret
    exact ⟨rfl, Below.refl _ _⟩
  have e1 : decide ((60 : Int) < (l.length : Int)) = false := by simpa using hlen
  go_enter Try.func4, Try.ntmps4
  go_wp2_with fail
  refine Hn.out.mono ?_
  rintro e w1 ⟨rfl, hM, -⟩
  have e0 : nOf 50 = 50 := rfl
  rw [e0] at hM
  have HM := Lib.hid hM
  clear hM e0 e1
  go_wp2_with fail
  go_loopw [6] (fun i wr => ∃ (k : Nat) (L : List Rg), k ≤ l.length ∧ i = .int .i64 (k : Int) ∧ MS w (fun _ => False) (w.heap.size + 1) 50 wr L) (fun i _ => l.length - (intOf i).toNat)
  case atStart => exact ⟨0, _, Nat.zero_le _, rfl, HM.out⟩
  case round =>
    clear HM
    obtain ⟨k, L, hk, rfl, hp⟩ := hrel
    by_cases hlt : k < l.length
    · obtain ⟨s, hs⟩ : ∃ s, l[k]? = some s := ⟨_, List.getElem?_eq_getElem hlt⟩
      obtain ⟨b, off, cap', hv, hbl, hc⟩ := Hst.out wr hp.below k s hs
      simp only [Value.slice.injEq, true_and] at hv
      obtain ⟨rfl, rfl⟩ := hv
      have q0 := hc 0 _ rfl
      rw [Nat.add_zero] at q0
      have q1 := hc 1 _ rfl
      have q2 := hc 2 _ rfl
      have q3 := hc 3 _ rfl
      have HP := Lib.hid hp
      clear hs hc hp
      by_cases hk0 : s.kind = 0
      · have ek : (s.kind == 0) = true := by simpa using hk0
        have hcall := HP.out.alloc s.k
        unfold Rg.val at hcall
        clear hk0 q2 q3
        go_wp2_with fail
        refine hcall.mono ?_
        rintro e w2 ⟨rfl, hp2, -⟩
        have HP2 := Lib.hid hp2
        clear hcall hp2 q0 q1
        go_wp2_with fail
        go_roundw
        case rel => exact ⟨k + 1, _, by omega, by go_num, HP2.out⟩
        case measure => simp [intOf]; omega
      · have ek : (s.kind == 0) = false := by simpa using hk0
        by_cases hk1 : s.kind = 1
        · have ek1 : (s.kind == 1) = true := by simpa using hk1
          have hcall := HP.out.take s.r
          unfold Rg.val at hcall
          clear hk0 hk1 q1
          go_wp2_with fail
          refine hcall.mono ?_
          rintro e w2 ⟨rfl, hp2, -⟩
          have HP2 := Lib.hid hp2
          clear hcall hp2 q0 q2 q3
          go_wp2_with fail
          go_roundw
          case rel => exact ⟨k + 1, _, by omega, by go_num, HP2.out⟩
          case measure => simp [intOf]; omega
        · have ek1 : (s.kind == 1) = false := by simpa using hk1
          by_cases hk2 : s.kind = 2
          · have ek2 : (s.kind == 2) = true := by simpa using hk2
            have hcall := HP.out.give s.r
            unfold Rg.val at hcall
            clear hk0 hk1 hk2 q1
            go_wp2_with fail
            refine hcall.mono ?_
            rintro e w2 ⟨rfl, hp2, -⟩
            have HP2 := Lib.hid hp2
            clear hcall hp2 q0 q2 q3
            go_wp2_with fail
            go_roundw
            case rel => exact ⟨k + 1, _, by omega, by go_num, HP2.out⟩
            case measure => simp [intOf]; omega
          · have ek2 : (s.kind == 2) = false := by simpa using hk2
            clear hk0 hk1 hk2 q1 q2 q3
            go_wp2_with fail
            go_roundw
            case rel => exact ⟨k + 1, L, by omega, by go_num, HP.out⟩
            case measure => simp [intOf]; omega
    · have HP := Lib.hid hp
      clear hp Hst
      -- TAIL
      have hrise := HP.out.rise
      have Hrise := Lib.hid hrise
      clear hrise
      go_wp2_with fail
      obtain ⟨n, hn, n1, n2⟩ := go12 Hkk.out
      rw [hn]
      clear hn
      go_loopw [8, 9, 10] (fun c r i wx => ∃ best run i' : Int, c = .int .i64 best ∧ r = .int .i64 run ∧ i = .int .i64 i' ∧ 0 ≤ i' ∧ i' ≤ 50 ∧ best < 60 ∧ FInv n L i' run best ∧ MS w (fun _ => False) (w.heap.size + 1) 50 wx L) (fun _ _ i _ => (50 - intOf i).toNat)
      case atStart => exact ⟨-1, 0, 0, rfl, rfl, rfl, by omega, by omega, by omega, FInv.start n1 L, HP.out⟩
      case round =>
        clear HP
        obtain ⟨best, run, i, rfl, rfl, rfl, i0, i1, b1, hf, hp⟩ := hrel
        have Hp := Lib.hid hp
        clear hp
        by_cases hgo : i < 50 ∧ best < 0
        · obtain ⟨hi, hbn⟩ := hgo
          have hb1 : best = -1 := by rcases hf with h | h; exact h.1; omega
          subst hb1
          have t1 : decide (i < 50) = true := by simpa using hi
          have his := Hp.out.is i
          have hw1 : IntKind.i64.wrap (i + 1) = i + 1 := by rw [IntKind.wrap_i64]; omega
          cases hfr : isIn L i with
          | true =>
            rw [hfr] at his
            obtain ⟨r0, r1, h1, h2⟩ := hf.free hi hfr
            have hw2 : IntKind.i64.wrap (run + 1) = run + 1 := by rw [IntKind.wrap_i64]; omega
            have hw3 : IntKind.i64.wrap (i - n) = i - n := by rw [IntKind.wrap_i64]; omega
            have hw4 : IntKind.i64.wrap (i - n + 1) = i - n + 1 := by rw [IntKind.wrap_i64]; omega
            by_cases hrn : run + 1 = n
            · have t2 : (run + 1 == n) = true := by simpa using hrn
              have H1 := Lib.hid (h1 hrn)
              clear h1 h2 hrn hf hfr hbn
              go_wp2_with fail
              refine his.mono ?_
              rintro e w5 ⟨rfl, hb5⟩
              have HP5 := Lib.hid (Hp.out.more hb5)
              clear his hb5
              go_wp2_with fail
              go_roundw
              case rel => exact ⟨_, _, _, rfl, rfl, rfl, by omega, by omega, by omega, H1.out.2, HP5.out⟩
              case measure => simp [intOf]; omega
            · have t2 : (run + 1 == n) = false := by simpa using hrn
              have H2 := Lib.hid (h2 hrn)
              clear h1 h2 hrn hf hfr hbn
              go_wp2_with fail
              refine his.mono ?_
              rintro e w5 ⟨rfl, hb5⟩
              have HP5 := Lib.hid (Hp.out.more hb5)
              clear his hb5
              go_wp2_with fail
              go_roundw
              case rel => exact ⟨_, _, _, rfl, rfl, rfl, by omega, by omega, by omega, H2.out, HP5.out⟩
              case measure => simp [intOf]; omega
          | false =>
            rw [hfr] at his
            obtain ⟨r0, r1, h1⟩ := hf.held n1 hfr
            have hw2 : IntKind.i64.wrap (run + 1) = run + 1 := by rw [IntKind.wrap_i64]; omega
            have t2 : ((0 : Int) == n) = false := by simp; omega
            have H1 := Lib.hid h1
            clear h1 hf hfr hbn
            go_wp2_with fail
            refine his.mono ?_
            rintro e w5 ⟨rfl, hb5⟩
            have HP5 := Lib.hid (Hp.out.more hb5)
            clear his hb5
            go_wp2_with fail
            go_roundw
            case rel => exact ⟨_, _, _, rfl, rfl, rfl, by omega, by omega, by omega, H1.out, HP5.out⟩
            case measure => simp [intOf]; omega
        · have hal := Hp.out.alloc n
          by_cases hbn : best < 0
          · have hi : i = 50 := by omega
            subst hi
            have hw : noWin n L 50 := by rcases hf with h | h; exact h.2.2.2.2.2.2; omega
            obtain ⟨a1, a2⟩ := first_none Hrise.out n1 hw
            rw [a1, a2] at hal
            have t1 : decide (best < 0) = true := by simpa using hbn
            unfold Rg.val Rg.zero at hal
            clear hf hw a1 a2 hgo
            go_wp2_with fail
            refine hal.mono ?_
            rintro e w5 ⟨rfl, hp5, -⟩
            have HP5 := Lib.hid hp5
            clear hal hp5
            go_wp2_with fail
            refine (shown_any (w := w5.alloc (.cells #[.int .i64 0, .int .i64 0] 27))).mono ?_
            rintro e w6 ⟨rfl, hb6⟩
            have hw5 := HP5.out.below
            have HF := Lib.hid (hw5.trans (((Below.refl w5.heap.size w5).alloc (Nat.le_refl _) (.cells #[.int .i64 0, .int .i64 0] 27)).trans (hb6.mono (by simp)) |>.mono hw5.size))
            clear hb6 hw5
            go_wp2_with fail
            go_ret
            exact ⟨rfl, HF.out⟩
          · have hw : 0 ≤ best ∧ allIn L best (best + n) ∧ noWin n L (best + n - 1) := by
              rcases hf with h | h
              · omega
              · exact ⟨h.1, h.2.2.1, h.2.2.2⟩
            obtain ⟨hb0, hw1, hw2⟩ := hw
            obtain ⟨a1, a2⟩ := first_some Hrise.out n1 hb0 hw1 hw2
            rw [a1, a2] at hal
            have t1 : decide (best < 0) = false := by simpa using hbn
            have hwr : IntKind.i64.wrap (best + n) = best + n := by rw [IntKind.wrap_i64]; omega
            unfold Rg.val at hal
            clear hf hw1 hw2 a1 a2 hgo
            go_wp2_with fail
            all_goals
              refine hal.mono ?_
              rintro e w5 ⟨rfl, hp5, -⟩
              have HP5 := Lib.hid hp5
              clear hal hp5
              go_wp2_with fail
              refine (shown_any (w := w5.alloc (.cells #[.int .i64 best, .int .i64 (best + n)] 27))).mono ?_
              rintro e w6 ⟨rfl, hb6⟩
              have hw5 := HP5.out.below
              have HF := Lib.hid (hw5.trans (((Below.refl w5.heap.size w5).alloc (Nat.le_refl _) (.cells #[.int .i64 best, .int .i64 (best + n)] 27)).trans (hb6.mono (by simp)) |>.mono hw5.size))
              clear hb6 hw5
              go_wp2_with fail
              go_ret
              exact ⟨rfl, HF.out⟩
end Go.Proofs.Ytajbodfdohhhoaa
