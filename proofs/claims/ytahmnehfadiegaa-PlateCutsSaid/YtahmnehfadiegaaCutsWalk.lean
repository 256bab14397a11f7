/- PlateCuts: its walk: whatever n, many and keep, it returns true. Printed by gen_cuts.py. -/
import Derived.Test.YtahmnehfadiegaaPlateLaw
import Derived.Test.YtahmnehfadiegaaCutsPlain
namespace Go.Proofs.Ytahmnehfadiegaa
open Go.RowKit
theorem CInv.sync' {k c : Nat} {st : PS} (h : CInv k (c - 1) st) (hc : 1 ≤ c) : CInv k c st.syncS ∧ st.syncE = if 0 < k ∧ k ≤ c then 70 else 0 := by
  obtain ⟨j, rfl⟩ : ∃ j, c = j + 1 := ⟨c - 1, by omega⟩
  exact h.sync
theorem CInv.write' {k c : Nat} {st : PS} (h : CInv k (c - 1) st) (hc : 1 ≤ c) (j : Int) (hj0 : 0 ≤ j) (hj : j < 4) (s : List UInt8) (hs : s.length ≤ 32) : CInv k c (st.writeS j s) ∧ st.writeE j s = if 0 < k ∧ k ≤ c then 70 else 0 := by
  obtain ⟨i, rfl⟩ : ∃ i, c = i + 1 := ⟨c - 1, by omega⟩
  exact h.write j hj0 hj s hs
set_option maxRecDepth 100000 in
set_option maxHeartbeats 4000000 in
theorem cuts_any (n many keep : Nat) (hn : n < 256) (hm : many < 256) (hk : keep < 18446744073709551616) (w : World) :
    Calls Try.prog 3 #[.int .u8 (n : Int), .int .u8 (many : Int), .int .u64 (keep : Int)] w fun e w' => e = .returned (.bool true) ∧ Below w.heap.size w w' := by
  go_enter Try.func3, Try.ntmps3
  go_wp2_with fail
  refine (P1.made _).mono ?_
  rintro e w1 ⟨rfl, hp⟩
  have e4 : sizeOfN 4 = 4 := rfl
  rw [e4] at hp
  clear e4
  go_wp2_with fail
  have ek : ((n : Int) % 20) = ((n % 20 : Nat) : Int) := by omega
  have hk20 : n % 20 < 20 := by omega
  rw [ek]
  clear ek
  generalize n % 20 = k at hk20 ⊢
  refine (hp.cut (k : Int) (by omega) keep hk).mono ?_
  rintro e w2 ⟨rfl, hp2⟩
  have hinv := CInv.new k keep
  clear hp
  generalize (PS.new 4).cut (k : Int) keep = st0 at hp2 hinv
  go_wp2_with fail
  go_loopw [9] (fun i wr => ∃ (c : Nat) (st : PS), 1 ≤ c ∧ c ≤ 31 ∧ i = .int .i64 (c : Int) ∧ CInv k (c - 1) st ∧ P1 w.heap.size w wr w.heap.size st) (fun i _ => 40 - (intOf i).toNat)
  case atStart => exact ⟨1, st0, by omega, by omega, rfl, hinv, hp2⟩
  case round =>
    clear hinv hp2 st0
    obtain ⟨c, st, hc1, hc31, rfl, hinv, hp⟩ := hrel
    have hcal : st.calls ≤ c := by rw [hinv.calls]; split <;> omega
    have hwt := hinv.wait
    by_cases hlt : c ≤ many % 30
    · have e0 : ((c : Int) ≤ (many : Int) % 30) := by omega
      have hcm : c < 30 := by omega
      clear hlt
      by_cases h3 : c % 3 = 0
      · have e3 : (((c : Int) % 3) == 0) = true := by simp; omega
        obtain ⟨hi', he'⟩ := hinv.sync' hc1
        have hcc := hp.sync (by omega) (by omega)
        rw [he'] at hcc
        clear hinv h3 he' hp hcal hwt
        rcases (show (0 < k ∧ k ≤ c) ∨ (0 < k ∧ ¬ k ≤ c) ∨ ¬ 0 < k by omega) with hg | hg | hg
        · have g1 : decide ((0 : Int) < (k : Int)) = true := by simp; omega
          have g2 : decide ((k : Int) ≤ (c : Int)) = true := by simp; omega
          rw [if_pos hg] at hcc
          have ho := hi'.off
          rw [decide_eq_true hg] at ho
          have hq := hi'.calls
          rw [if_pos hg] at hq
          obtain ⟨hg1, hg2⟩ := hg
          go_wp2_with fail
          refine hcc.mono ?_
          rintro e w3 ⟨rfl, hp3⟩
          have hd := hp3.dead
          have hn3 := hp3.calls
          rw [ho] at hd
          rw [hq] at hn3
          clear ho hq hcc
          go_wp2_with fail
          refine hd.mono ?_
          rintro e w4 ⟨rfl, rfl⟩
          go_wp2_with fail
          refine hn3.mono ?_
          rintro e w4 ⟨rfl, rfl⟩
          clear hd hn3
          go_wp2_with fail
          go_roundw
          case rel => exact ⟨c + 1, _, by omega, by omega, by go_num, hi', hp3⟩
          case measure => simp [intOf]; omega
        · have g1 : decide ((0 : Int) < (k : Int)) = true := by simp; omega
          have g2 : decide ((k : Int) ≤ (c : Int)) = false := by simp; omega
          rw [if_neg (by omega)] at hcc
          have ho := hi'.off
          rw [decide_eq_false (by omega)] at ho
          have hq := hi'.calls
          rw [if_neg (by omega)] at hq
          obtain ⟨hg1, hg2⟩ := hg
          go_wp2_with fail
          refine hcc.mono ?_
          rintro e w3 ⟨rfl, hp3⟩
          have hd := hp3.dead
          have hn3 := hp3.calls
          rw [ho] at hd
          rw [hq] at hn3
          clear ho hq hcc
          go_wp2_with fail
          refine hd.mono ?_
          rintro e w4 ⟨rfl, rfl⟩
          go_wp2_with fail
          refine hn3.mono ?_
          rintro e w4 ⟨rfl, rfl⟩
          clear hd hn3
          go_wp2_with fail
          go_roundw
          case rel => exact ⟨c + 1, _, by omega, by omega, by go_num, hi', hp3⟩
          case measure => simp [intOf]; omega
        · have g1 : decide ((0 : Int) < (k : Int)) = false := by simp; omega
          rw [if_neg (by omega)] at hcc
          have ho := hi'.off
          rw [decide_eq_false (by omega)] at ho
          have hq := hi'.calls
          rw [if_neg (by omega)] at hq
          have hg1 : (k : Int) < 1 := by omega
          clear hg
          go_wp2_with fail
          refine hcc.mono ?_
          rintro e w3 ⟨rfl, hp3⟩
          have hd := hp3.dead
          have hn3 := hp3.calls
          rw [ho] at hd
          rw [hq] at hn3
          clear ho hq hcc
          go_wp2_with fail
          refine hd.mono ?_
          rintro e w4 ⟨rfl, rfl⟩
          go_wp2_with fail
          refine hn3.mono ?_
          rintro e w4 ⟨rfl, rfl⟩
          clear hd hn3
          go_wp2_with fail
          go_roundw
          case rel => exact ⟨c + 1, _, by omega, by omega, by go_num, hi', hp3⟩
          case measure => simp [intOf]; omega
      · have e3 : (((c : Int) % 3) == 0) = false := by simp; omega
        obtain ⟨hi', he'⟩ := hinv.write' hc1 ((c : Int) % 4) (by omega) (by omega) [120] (by decide)
        have hcc := hp.write (by omega) (by omega) ((c : Int) % 4) ⟨#[120]⟩ (show 1 ≤ maxLen by simp [maxLen])
        rw [show (ByteArray.mk #[120]).data.toList = [120] from rfl, he'] at hcc
        clear hinv h3 he' hp hcal hwt
        rcases (show (0 < k ∧ k ≤ c) ∨ (0 < k ∧ ¬ k ≤ c) ∨ ¬ 0 < k by omega) with hg | hg | hg
        · have g1 : decide ((0 : Int) < (k : Int)) = true := by simp; omega
          have g2 : decide ((k : Int) ≤ (c : Int)) = true := by simp; omega
          rw [if_pos hg] at hcc
          have ho := hi'.off
          rw [decide_eq_true hg] at ho
          have hq := hi'.calls
          rw [if_pos hg] at hq
          obtain ⟨hg1, hg2⟩ := hg
          go_wp2_with fail
          refine hcc.mono ?_
          rintro e w3 ⟨rfl, hp3⟩
          have hd := hp3.dead
          have hn3 := hp3.calls
          rw [ho] at hd
          rw [hq] at hn3
          clear ho hq hcc
          go_wp2_with fail
          refine hd.mono ?_
          rintro e w4 ⟨rfl, rfl⟩
          go_wp2_with fail
          refine hn3.mono ?_
          rintro e w4 ⟨rfl, rfl⟩
          clear hd hn3
          go_wp2_with fail
          go_roundw
          case rel => exact ⟨c + 1, _, by omega, by omega, by go_num, hi', hp3⟩
          case measure => simp [intOf]; omega
        · have g1 : decide ((0 : Int) < (k : Int)) = true := by simp; omega
          have g2 : decide ((k : Int) ≤ (c : Int)) = false := by simp; omega
          rw [if_neg (by omega)] at hcc
          have ho := hi'.off
          rw [decide_eq_false (by omega)] at ho
          have hq := hi'.calls
          rw [if_neg (by omega)] at hq
          obtain ⟨hg1, hg2⟩ := hg
          go_wp2_with fail
          refine hcc.mono ?_
          rintro e w3 ⟨rfl, hp3⟩
          have hd := hp3.dead
          have hn3 := hp3.calls
          rw [ho] at hd
          rw [hq] at hn3
          clear ho hq hcc
          go_wp2_with fail
          refine hd.mono ?_
          rintro e w4 ⟨rfl, rfl⟩
          go_wp2_with fail
          refine hn3.mono ?_
          rintro e w4 ⟨rfl, rfl⟩
          clear hd hn3
          go_wp2_with fail
          go_roundw
          case rel => exact ⟨c + 1, _, by omega, by omega, by go_num, hi', hp3⟩
          case measure => simp [intOf]; omega
        · have g1 : decide ((0 : Int) < (k : Int)) = false := by simp; omega
          rw [if_neg (by omega)] at hcc
          have ho := hi'.off
          rw [decide_eq_false (by omega)] at ho
          have hq := hi'.calls
          rw [if_neg (by omega)] at hq
          have hg1 : (k : Int) < 1 := by omega
          clear hg
          go_wp2_with fail
          refine hcc.mono ?_
          rintro e w3 ⟨rfl, hp3⟩
          have hd := hp3.dead
          have hn3 := hp3.calls
          rw [ho] at hd
          rw [hq] at hn3
          clear ho hq hcc
          go_wp2_with fail
          refine hd.mono ?_
          rintro e w4 ⟨rfl, rfl⟩
          go_wp2_with fail
          refine hn3.mono ?_
          rintro e w4 ⟨rfl, rfl⟩
          clear hd hn3
          go_wp2_with fail
          go_roundw
          case rel => exact ⟨c + 1, _, by omega, by omega, by go_num, hi', hp3⟩
          case measure => simp [intOf]; omega
    · have e0 : ¬ ((c : Int) ≤ (many : Int) % 30) := by omega
      have hcm : c ≤ 31 := by omega
      clear hlt
      have hcr := hp.crash (by omega) keep hk
      have ho2 : (st.crash keep).off = true := by
        unfold PS.crash; split
        · assumption
        · rfl
      have hsz : (st.crash keep).size = 4 := by
        have := hinv.size
        unfold PS.crash; split
        · exact this
        · exact this
      have hwc : (st.crash keep).wait.length ≤ 31 := Nat.le_trans (PS.wait_crash st keep) (by omega)
      have hcc : (st.crash keep).calls ≤ 31 := by rw [PS.calls_crash]; omega
      generalize st.crash keep = s1 at hcr ho2 hsz hwc hcc
      clear hinv hp hcal hwt
      go_wp2_with fail
      refine hcr.mono ?_
      rintro e w3 ⟨rfl, hp3⟩
      have hd := hp3.dead
      rw [ho2] at hd
      clear hcr ho2
      go_wp2_with fail
      refine hd.mono ?_
      rintro e w4 ⟨rfl, rfl⟩
      clear hd
      go_wp2_with fail
      refine hp3.power.mono ?_
      rintro e w4 ⟨rfl, hp4⟩
      have ho4 : s1.power.off = false := rfl
      have hsz4 : s1.power.size = 4 := hsz
      have hl4 : s1.power.lastB = false := rfl
      have hwc4 : s1.power.wait.length ≤ 31 := hwc
      have hcc4 : s1.power.calls ≤ 31 := hcc
      clear hp3 hsz hwc hcc
      generalize s1.power = s2 at hp4 ho4 hsz4 hl4 hwc4 hcc4
      have hd4 := hp4.dead
      rw [ho4] at hd4
      have hw0 := hp4.write (by omega) (by omega) 0 ⟨#[]⟩ (Nat.zero_le _)
      have e1 : s2.writeE 0 (ByteArray.mk #[]).data.toList = 0 := by simp [PS.writeE, PS.wrong, ho4, hsz4, hl4]
      have e2 : (s2.writeS 0 (ByteArray.mk #[]).data.toList).wrong 4 = 71 := by
        have hws : s2.writeS 0 (ByteArray.mk #[]).data.toList = (s2.waits 0 (pad [])).lastS := by simp [PS.writeS, PS.wrong, ho4, hsz4]
        have h1 : (s2.writeS 0 (ByteArray.mk #[]).data.toList).off = false := by
          rw [hws, off_lastS _ (show (s2.waits 0 (pad [])).off = false from ho4)]
          exact hl4
        have h2 : (s2.writeS 0 (ByteArray.mk #[]).data.toList).size = 4 := by
          rw [hws, size_lastS]
          exact hsz4
        simp [PS.wrong, h1, h2]
      rw [e1] at hw0
      have hb1 := PS.calls_writeS s2 0 (ByteArray.mk #[]).data.toList
      have hb2 := PS.wait_writeS s2 0 (ByteArray.mk #[]).data.toList
      generalize s2.writeS 0 (ByteArray.mk #[]).data.toList = s3 at hw0 e2 hb1 hb2
      clear e1 ho4 hsz4 hl4
      go_wp2_with fail
      refine hd4.mono ?_
      rintro e w5 ⟨rfl, rfl⟩
      clear hd4
      go_wp2_with fail
      refine hw0.mono ?_
      rintro e w5 ⟨rfl, hp5⟩
      have hw4 := hp5.write (by omega) (by omega) 4 ⟨#[]⟩ (Nat.zero_le _)
      have e5 : s3.writeE 4 (ByteArray.mk #[]).data.toList = 71 := by simp [PS.writeE, e2]
      rw [e5] at hw4
      clear e5 e2 hw0 hp4
      go_wp2_with fail
      refine hw4.mono ?_
      rintro e w6 ⟨rfl, hp6⟩
      clear hw4
      go_wp2_with fail
      go_ret
      exact ⟨rfl, hp6.below⟩
end Go.Proofs.Ytahmnehfadiegaa
