/- The plate's calls that crash it: Crash, last, Sync. -/
import Derived.Test.YtkbncbkmaakpkaaDoorSettle
namespace Go.Proofs.YtkbncbkmaakpkaaDoor
open Go.RowKit

/-- A call has turned the plate at b into st': nothing else that was there has turned. -/
def ToPlate (w : World) (b : Nat) (v : Value) (st' : PS) (w' : World) : Prop := ∃ v', IsPlate w' b v' st' ∧ Moves (pfp b v) w w' ∧ ∀ k, pfp b v' k → pfp b v k ∨ w.heap.size ≤ k
theorem ToPlate.refl {w : World} {b : Nat} {v : Value} {st : PS} (h : IsPlate w b v st) : ToPlate w b v st w := ⟨v, h, Moves.refl _ _, fun _ hk => .inl hk⟩
theorem ToPlate.same {w w' : World} {b : Nat} {v : Value} {st : PS} (h : IsPlate w' b v st) (hm : Moves (pfp b v) w w') : ToPlate w b v st w' := ⟨v, h, hm, fun _ hk => .inl hk⟩
theorem ToPlate.nil {w w' : World} {b : Nat} {v : Value} {st : PS} (h : IsPlate w' b (.slice none 0 0) st) (hm : Moves (pfp b v) w w') : ToPlate w b v st w' :=
  ⟨_, h, hm, fun k hk => .inl (by rcases hk with hk | hk; exact .inl hk; simp [Value.ownBlock] at hk)⟩
theorem ToPlate.trans {w w1 w2 : World} {b : Nat} {v v1 : Value} {st2 : PS} (hm : Moves (pfp b v) w w1) (hf : ∀ k, pfp b v1 k → pfp b v k ∨ w.heap.size ≤ k) (h : ToPlate w1 b v1 st2 w2) : ToPlate w b v st2 w2 := by
  obtain ⟨v2, h2, m2, f2⟩ := h
  refine ⟨v2, h2, hm.trans m2 hf, fun k hk => ?_⟩
  rcases f2 k hk with h3 | h3
  · exact hf k h3
  · exact .inr (Nat.le_trans hm.size h3)

set_option maxRecDepth 100000 in
set_option maxHeartbeats 1000000 in
theorem crash_any {b : Nat} {v : Value} {st : PS} {w : World} (h : IsPlate w b v st) (hn : st.wait.length < 1000000000) (keep : Nat) (hk : keep < 18446744073709551616) :
    Calls Tryd.prog 37 #[.pointer (some ⟨b, 0, none⟩), .int .u64 (keep : Int)] w fun e w' => e = .returned (.tuple #[]) ∧ ToPlate w b v (st.crash keep) w' := by
  have h1 := h.off
  have hbl := World.block_lt_of_cell? w _ h1
  cases ho : st.off
  · have Hc := Lib.hid (show st.crash keep = st.crashOn keep by simp [PS.crash, ho])
    rw [ho] at h1
    clear ho
    have hp := h.alloc (.cells #[.int .u64 (keep : Int)] 76)
    have hkf : ¬ pfp b v w.heap.size := fun hh => Nat.lt_irrefl _ (h.lt _ hh)
    go_enter Tryd.func37, Tryd.ntmps37
    go_wp2_with fail
    refine (settle_part hp hn keep w.heap.size hk (by simp) hkf).mono ?_
    rintro e w1 ⟨rfl, hp1, hm1⟩
    have q1 := hp1.off
    have q2 := hp1.left
    have q3 := hp1.fro 4098
    have q4 := hp1.fro 4099
    have hfin := (hp1.setOff true).setLeft 0 (by omega)
    have hmv : Moves (pfp b v) w ((w1.setCell ⟨b, 4098, none⟩ (.bool true)).setCell ⟨b, 4099, none⟩ (.int .i64 0)) :=
      ((((Moves.refl _ w).alloc _).trans hm1 (fun i hi => .inl hi)).setCell _ _ (.inl (.inl rfl))).setCell _ _ (.inl (.inl rfl))
    clear hp1 hm1
    go_wp2_with fail
    go_end0
    refine ⟨rfl, ?_⟩
    rw [Hc.out]
    exact .nil hfin hmv
  · have Hc := Lib.hid (show st.crash keep = st by simp [PS.crash, ho])
    rw [ho] at h1
    clear ho
    have hp := h.alloc (.cells #[.int .u64 (keep : Int)] 76)
    go_enter Tryd.func37, Tryd.ntmps37
    go_wp2_with fail
    refine bodyPost_ret (results_none rfl _ _ _) rfl ?_
    refine ⟨rfl, ?_⟩
    rw [Hc.out]
    exact .same hp ((Moves.refl _ w).alloc _)

set_option maxRecDepth 100000 in
set_option maxHeartbeats 1000000 in
/-- The call counts: did the power go? -/
theorem plast_any {b : Nat} {v : Value} {st : PS} {w : World} (h : IsPlate w b v st) (hn : st.calls < 1000000000) (hw : st.wait.length < 1000000000) :
    Calls Tryd.prog 179 #[.pointer (some ⟨b, 0, none⟩)] w fun e w' => e = .returned (.bool st.lastB) ∧ ToPlate w b v st.lastS w' := by
  have h1 := h.calls
  have h2 := h.left
  have h3 := h.keep
  have h4 := h.fro 4101
  have h5 := h.fro 4099
  have hk := h.ok.keep
  have hl := h.ok.left
  have hp := h.setCalls
  have hm : Moves (pfp b v) w (w.setCell ⟨b, 4101, none⟩ (.int .i64 ((st.calls : Int) + 1))) := (Moves.refl _ w).setCell _ _ (.inl (.inl rfl))
  by_cases hl0 : st.left = 0
  · have Hs := Lib.hid (show st.lastS = st.counts by simp [PS.lastS, hl0])
    have Hb := Lib.hid (show st.lastB = false by simp [PS.lastB, hl0])
    have e0 : ((st.left : Int) == 0) = true := by simp [hl0]
    clear hl0
    go_enter Tryd.func179, Tryd.ntmps179
    go_wp2_with fail
    go_ret
    rw [Hs.out, Hb.out]
    exact ⟨rfl, .same hp hm⟩
  by_cases hl1 : st.left = 1
  · have Hs := Lib.hid (show st.lastS = st.counts.crash st.keep by simp [PS.lastS, hl1])
    have Hb := Lib.hid (show st.lastB = true by simp [PS.lastB, hl1])
    have e0 : ((st.left : Int) == 0) = false := by simp [hl1]
    have e1 : ((st.left : Int) == 1) = true := by simp [hl1]
    clear hl0 hl1
    go_enter Tryd.func179, Tryd.ntmps179
    go_wp2_with fail
    refine (crash_any hp hw st.keep hk).mono ?_
    rintro e w1 ⟨rfl, hto⟩
    go_wp2_with fail
    go_ret
    rw [Hs.out, Hb.out]
    exact ⟨rfl, .trans hm (fun _ hh => .inl hh) hto⟩
  · have Hs := Lib.hid (show st.lastS = { st.counts with left := st.left - 1 } by simp [PS.lastS, hl0, hl1])
    have Hb := Lib.hid (show st.lastB = false by simp [PS.lastB, hl1])
    have e0 : ((st.left : Int) == 0) = false := by simp; omega
    have e1 : ((st.left : Int) == 1) = false := by simp; omega
    have hp2 := hp.setLeft (st.left - 1) (by omega)
    have e2 : ((st.left - 1 : Nat) : Int) = (st.left : Int) - 1 := by omega
    rw [e2] at hp2
    have hge : (1 : Int) ≤ (st.left : Int) := by omega
    clear hl0 hl1 e2
    go_enter Tryd.func179, Tryd.ntmps179
    go_wp2_with fail
    go_ret
    rw [Hs.out, Hb.out]
    exact ⟨rfl, .same hp2 (hm.setCell _ _ (.inl (.inl rfl)))⟩

set_option maxRecDepth 100000 in
set_option maxHeartbeats 1000000 in
theorem sync_any {b : Nat} {v : Value} {st : PS} {w : World} (h : IsPlate w b v st) (hn : st.calls < 1000000000) (hwl : st.wait.length < 1000000000) :
    Calls Tryd.prog 176 #[.pointer (some ⟨b, 0, none⟩)] w fun e w' => e = .returned (.int .i64 st.syncE) ∧ ToPlate w b v st.syncS w' := by
  have h1 := h.off
  cases ho : st.off
  · rw [ho] at h1
    cases hb : st.lastB
    · have Hs := Lib.hid (show st.syncS = st.lastS.settled by simp [PS.syncS, ho, hb])
      have He := Lib.hid (show st.syncE = 0 by simp [PS.syncE, ho, hb])
      have hc := plast_any h hn hwl
      rw [hb] at hc
      have hwl2 : st.lastS.wait.length < 1000000000 := by have := PS.wait_lastS st; omega
      clear hb ho
      go_enter Tryd.func176, Tryd.ntmps176
      go_wp2_with fail
      refine hc.mono ?_
      rintro e w1 ⟨rfl, v1, hp1, hm1, hf1⟩
      go_wp2_with fail
      refine (settle_all hp1 hwl2).mono ?_
      rintro e w2 ⟨rfl, hp2, hm2⟩
      go_wp2_with fail
      go_ret
      rw [Hs.out, He.out]
      exact ⟨rfl, .trans hm1 hf1 (.nil hp2 hm2)⟩
    · have Hs := Lib.hid (show st.syncS = st.lastS by simp [PS.syncS, ho, hb])
      have He := Lib.hid (show st.syncE = 70 by simp [PS.syncE, hb])
      have hc := plast_any h hn hwl
      rw [hb] at hc
      clear hb ho
      go_enter Tryd.func176, Tryd.ntmps176
      go_wp2_with fail
      refine hc.mono ?_
      rintro e w1 ⟨rfl, hto⟩
      go_wp2_with fail
      go_ret
      rw [Hs.out, He.out]
      exact ⟨rfl, hto⟩
  · have Hs := Lib.hid (show st.syncS = st by simp [PS.syncS, ho])
    have He := Lib.hid (show st.syncE = 70 by simp [PS.syncE, ho])
    rw [ho] at h1
    clear ho
    go_enter Tryd.func176, Tryd.ntmps176
    go_wp2_with fail
    go_ret
    rw [Hs.out, He.out]
    exact ⟨rfl, .refl h⟩
end Go.Proofs.YtkbncbkmaakpkaaDoor
