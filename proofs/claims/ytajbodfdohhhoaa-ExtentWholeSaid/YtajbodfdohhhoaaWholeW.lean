/- ExtentWhole: its walk. -/
import Derived.Test.YtajbodfdohhhoaaWholePlain
namespace Go.Proofs.Ytajbodfdohhhoaa
open Go.RowKit
set_option maxRecDepth 100000 in
set_option maxHeartbeats 8000000 in
theorem extentwhole_any {w : World} (n1 n2 : Nat) (hn1 : n1 < 256) (hn2 : n2 < 256) :
    Calls Try.prog 6 #[.int .u8 (n1 : Int), .int .u8 (n2 : Int)] w fun e w' => e = .returned (.bool true) ∧ Below w.heap.size w w' := by
  obtain ⟨s, hs, s1, s2⟩ := goMod hn1 (m := 60) (by omega) (by omega)
  obtain ⟨d, hd, d1, d2⟩ := goMod hn2 (m := 7) (by omega) (by omega)
  have hn := MS.new (wr := w) w (fun _ => False) (Below.refl _ _) (fun _ h => h.elim) s
  have e0 : nOf s = s := by unfold nOf; omega
  rw [e0] at hn
  have Hn := Lib.hid hn
  have Hs := Lib.hid hs
  have Hd := Lib.hid hd
  clear hn hn1 hn2 hs hd e0
  go_enter Try.func6, Try.ntmps6
  go_wp2_with fail
  have hs := Hs.out
  have hd := Hd.out
  simp only [Int.cast_ofNat_Int] at hs hd
  try rw [hs]
  clear hs
  refine Hn.out.mono ?_
  rintro e w1 ⟨rfl, hM, -⟩
  have HM := Lib.hid hM
  clear hM
  go_wp2_with fail
  rw [hd]
  clear hd
  go_loopw [8, 9] (fun c _ wr => ∃ (k : Nat) (L : List Rg), k ≤ d ∧ c = .int .i64 (k : Int) ∧ MS w (fun _ => False) (w.heap.size + 1) s wr L ∧ WTake s d k 0 L) (fun c _ _ => d - (intOf c).toNat)
  case atStart => exact ⟨0, _, Nat.zero_le _, rfl, HM.out, WTake.start s d⟩
  case round =>
    obtain ⟨k, L, hk, rfl, hp, hw⟩ := hrel
    have HP := Lib.hid hp
    clear hp
    by_cases hlt : k < d
    · go_wp2_with fail
      go_loopw [9] (fun c wr => ∃ (i : Nat) (L : List Rg), i ≤ s + d ∧ i % d = k ∧ c = .int .i64 (i : Int) ∧ MS w (fun _ => False) (w.heap.size + 1) s wr L ∧ WTake s d k i L) (fun c _ => s + d - (intOf c).toNat)
      case atStart => exact ⟨k, L, by omega, Nat.mod_eq_of_lt hlt, rfl, HP.out, hw.enter⟩
      case round =>
        clear HP hw
        obtain ⟨i, L, hi, him, rfl, hp, hw⟩ := hrel
        have HP := Lib.hid hp
        clear hp
        by_cases his : i < s
        · obtain ⟨h1, h2⟩ := hw.next HP.out.rise (by omega) his him
          have htk := HP.out.take ⟨(i : Int), (i : Int) + 1⟩
          rw [h1] at htk
          unfold Rg.val at htk
          have hw1 : IntKind.i64.wrap ((i : Int) + 1) = (i : Int) + 1 := by rw [IntKind.wrap_i64]; omega
          have hw2 : IntKind.i64.wrap ((i : Int) + (d : Int)) = (i : Int) + (d : Int) := by rw [IntKind.wrap_i64]; omega
          have H2 := Lib.hid h2
          have Him := Lib.hid him
          clear h1 h2 hw him
          go_wp2_with fail
          refine htk.mono ?_
          rintro e w2 ⟨rfl, hp2, -⟩
          have HP2 := Lib.hid hp2
          clear htk hp2
          go_wp2_with fail
          go_roundw
          case rel => exact ⟨i + d, _, by omega, by rw [Nat.add_mod_right]; exact Him.out, by simp, HP2.out, H2.out⟩
          case measure => simp [intOf]; omega
        · have H2 := Lib.hid (hw.leave (by omega))
          clear hw him
          go_wp2_with fail
          go_roundw
          case rel => exact ⟨k + 1, L, by omega, by go_num, HP.out, H2.out⟩
          case measure => simp [intOf]; omega
    · obtain rfl : d = k := by omega
      obtain rfl := hw.done HP.out.rise d1
      have hal := HP.out.alloc 1
      have a1 : allocE 1 [] = 2 := rfl
      have a2 : allocR 1 [] = Rg.zero := rfl
      have a3 : allocL 1 [] = [] := rfl
      rw [a1, a2, a3] at hal
      unfold Rg.val Rg.zero at hal
      clear a1 a2 a3 hw HP
      go_wp2_with fail
      refine hal.mono ?_
      rintro e w2 ⟨rfl, hp2, -⟩
      have hp2' := hp2.more ((Below.refl w2.heap.size w2).alloc (Nat.le_refl _) (.cells #[.int .i64 0, .int .i64 0] 27))
      have HP2 := Lib.hid hp2'
      clear hal hp2 hp2'
      go_wp2_with fail
      have hfr := HP2.out.free
      have hz : sumR [] = 0 := rfl
      rw [hz] at hfr
      refine hfr.mono ?_
      rintro e w3 ⟨rfl, hb3⟩
      have HP3 := Lib.hid (HP2.out.more hb3)
      have hls := HP3.out.list
      clear hfr hb3 hz
      go_wp2_with fail
      refine hls.mono ?_
      rintro e w4 ⟨v4, rfl, ho4, hb4⟩
      obtain ⟨a4, cap4, rfl⟩ := RowR.lens (show RowR w4 v4 [] from ownsRow_base ho4 fun _ _ => Nat.zero_le _)
      have HP4 := Lib.hid (HP3.out.more hb4)
      clear hls ho4 hb4 HP2 HP3
      go_wp2_with fail
      go_loopw [12, 13] (fun c _ wr => ∃ (k : Nat) (L : List Rg), k ≤ d ∧ c = .int .i64 (k : Int) ∧ MS w (fun _ => False) (w.heap.size + 1) s wr L ∧ WGive s d k 0 L) (fun c _ _ => d - (intOf c).toNat)
      case atStart => exact ⟨0, _, Nat.zero_le _, rfl, HP4.out, WGive.start s d⟩
      case round =>
        obtain ⟨k, L, hk, rfl, hp, hw⟩ := hrel
        have HP := Lib.hid hp
        clear hp
        by_cases hlt : k < d
        · go_wp2_with fail
          go_loopw [13] (fun c wr => ∃ (i : Nat) (L : List Rg), i ≤ s + d ∧ i % d = k ∧ c = .int .i64 (i : Int) ∧ MS w (fun _ => False) (w.heap.size + 1) s wr L ∧ WGive s d k i L) (fun c _ => s + d - (intOf c).toNat)
          case atStart => exact ⟨k, L, by omega, Nat.mod_eq_of_lt hlt, rfl, HP.out, hw.enter⟩
          case round =>
            clear HP hw
            obtain ⟨i, L, hi, him, rfl, hp, hw⟩ := hrel
            have HP := Lib.hid hp
            clear hp
            by_cases his : i < s
            · obtain ⟨h1, h2⟩ := hw.next HP.out.rise (by omega) his him
              have htk := HP.out.give ⟨(i : Int), (i : Int) + 1⟩
              rw [h1] at htk
              unfold Rg.val at htk
              have hw1 : IntKind.i64.wrap ((i : Int) + 1) = (i : Int) + 1 := by rw [IntKind.wrap_i64]; omega
              have hw2 : IntKind.i64.wrap ((i : Int) + (d : Int)) = (i : Int) + (d : Int) := by rw [IntKind.wrap_i64]; omega
              have H2 := Lib.hid h2
              have Him := Lib.hid him
              clear h1 h2 hw him
              go_wp2_with fail
              refine htk.mono ?_
              rintro e w2 ⟨rfl, hp2, -⟩
              have HP2 := Lib.hid hp2
              clear htk hp2
              go_wp2_with fail
              go_roundw
              case rel => exact ⟨i + d, _, by omega, by rw [Nat.add_mod_right]; exact Him.out, by simp, HP2.out, H2.out⟩
              case measure => simp [intOf]; omega
            · have H2 := Lib.hid (hw.leave (by omega))
              clear hw him
              go_wp2_with fail
              go_roundw
              case rel => exact ⟨k + 1, L, by omega, by go_num, HP.out, H2.out⟩
              case measure => simp [intOf]; omega
        · obtain rfl : d = k := by omega
          obtain rfl := hw.done HP.out.rise s1 d1
          have hls := HP.out.list
          have HB := Lib.hid HP.out.below
          clear HP hw
          go_wp2_with fail
          refine hls.mono ?_
          rintro e w4 ⟨v4, rfl, ho4, hb4⟩
          obtain ⟨g, cap4, rfl, -, -, hc⟩ := (show RowR w4 v4 [⟨0, (s : Int)⟩] from ownsRow_base ho4 fun _ _ => Nat.zero_le _).at (k := 0) (r := ⟨0, (s : Int)⟩) rfl
          have g0 := hc 0 _ rfl
          have g1 := hc 1 _ rfl
          have HB4 := Lib.hid (HB.out.trans (hb4.mono HB.out.size))
          clear hls ho4 hb4 hc
          go_wp2_with fail
          refine (shown_any (w := w4)).mono ?_
          rintro e w5 ⟨rfl, hb5⟩
          have HF := Lib.hid (HB4.out.trans (hb5.mono HB4.out.size))
          clear hb5 g0 g1
          go_wp2_with fail
          go_ret
          exact ⟨rfl, HF.out⟩
end Go.Proofs.Ytajbodfdohhhoaa
