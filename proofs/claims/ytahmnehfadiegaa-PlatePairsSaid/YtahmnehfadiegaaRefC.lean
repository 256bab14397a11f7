/- The reference's counted, and its Sync. -/
import Derived.Test.YtahmnehfadiegaaRefB
namespace Go.Proofs.Ytahmnehfadiegaa
open Go.RowKit
/-- A call has turned the reference's plate at b into st': nothing else that was there has turned. -/
def ToRef (w : World) (b : Nat) (vi vw : Value) (st' : PS) (w' : World) : Prop := ∃ vi' vw', IsRef w' b vi' vw' st' ∧ Moves (rfp b vi vw) w w' ∧ ∀ k, rfp b vi' vw' k → rfp b vi vw k ∨ w.heap.size ≤ k
theorem ToRef.refl {w : World} {b : Nat} {vi vw : Value} {st : PS} (h : IsRef w b vi vw st) : ToRef w b vi vw st w := ⟨vi, vw, h, Moves.refl _ _, fun _ hk => .inl hk⟩
theorem ToRef.same {w w' : World} {b : Nat} {vi vw : Value} {st : PS} (h : IsRef w' b vi vw st) (hm : Moves (rfp b vi vw) w w') : ToRef w b vi vw st w' := ⟨vi, vw, h, hm, fun _ hk => .inl hk⟩
theorem ToRef.nil {w w' : World} {b : Nat} {vi vw : Value} {st : PS} (h : IsRef w' b vi (.slice none 0 0) st) (hm : Moves (rfp b vi vw) w w') : ToRef w b vi vw st w' :=
  ⟨_, _, h, hm, fun k hk => .inl (by rcases hk with hk | hk | hk; exact .inl hk; exact .inr (.inl hk); simp [Value.ownBlock] at hk)⟩
theorem ToRef.trans {w w1 w2 : World} {b : Nat} {vi vw v1 v2 : Value} {st2 : PS} (hm : Moves (rfp b vi vw) w w1) (hf : ∀ k, rfp b v1 v2 k → rfp b vi vw k ∨ w.heap.size ≤ k) (h : ToRef w1 b v1 v2 st2 w2) : ToRef w b vi vw st2 w2 := by
  obtain ⟨x1, x2, h2, m2, f2⟩ := h
  refine ⟨x1, x2, h2, hm.trans m2 hf, fun k hk => ?_⟩
  rcases f2 k hk with h3 | h3
  · exact hf k h3
  · exact .inr (Nat.le_trans hm.size h3)
section
variable {b : Nat} {vi vw : Value} {st : PS} {w : World}
set_option maxRecDepth 100000 in
set_option maxHeartbeats 1000000 in
theorem rcrash_any (h : IsRef w b vi vw st) (hn : st.wait.length < 1000000000) (keep : Nat) (hk : keep < 18446744073709551616) :
    Calls Try.prog 24 #[.pointer (some ⟨b, 0, none⟩), .int .u64 (keep : Int)] w fun e w' => e = .returned (.tuple #[]) ∧ ToRef w b vi vw (st.crash keep) w' := by
  cases ho : st.off
  · have e : st.crash keep = st.crashOn keep := by simp [PS.crash, ho]
    rw [e]
    exact (rcrash_on h ho hn keep hk).mono fun e w' ⟨he, h1, h2⟩ => ⟨he, .nil h1 h2⟩
  · have e : st.crash keep = st := by simp [PS.crash, ho]
    rw [e]
    have h1 := h.off
    rw [ho] at h1
    clear e ho
    go_enter Try.func24, Try.ntmps24
    go_wp2_with fail
    refine bodyPost_ret (results_none rfl _ _ _) rfl ?_
    exact ⟨rfl, .refl h⟩
set_option maxRecDepth 100000 in
set_option maxHeartbeats 1000000 in
/-- The call counts (there is power): did it go? -/
theorem counted_any (h : IsRef w b vi vw st) (ho : st.off = false) (hn : st.calls < 1000000000) (hw : st.wait.length < 1000000000) :
    Calls Try.prog 33 #[.pointer (some ⟨b, 0, none⟩)] w fun e w' => e = .returned (.bool st.lastB) ∧ ToRef w b vi vw st.lastS w' := by
  have h1 := h.calls
  have h2 := h.left
  have h3 := h.keep
  have h4 := h.fro 5
  have h5 := h.fro 3
  have hk := h.ok.keep
  have hl := h.ok.left
  have hp := h.setCalls
  have hm : Moves (rfp b vi vw) w (w.setCell ⟨b, 5, none⟩ (.int .i64 ((st.calls : Int) + 1))) := (Moves.refl _ w).setCell _ _ (.inl (.inl rfl))
  by_cases hl0 : st.left = 0
  · have Hs := Lib.hid (show st.lastS = st.counts by simp [PS.lastS, hl0])
    have Hb := Lib.hid (show st.lastB = false by simp [PS.lastB, hl0])
    have e0 : ((st.left : Int) == 0) = true := by simp [hl0]
    clear hl0 ho
    go_enter Try.func33, Try.ntmps33
    go_wp2_with fail
    go_ret
    rw [Hs.out, Hb.out]
    exact ⟨rfl, .same hp hm⟩
  have hp2 := hp.setLeft (st.left - 1) (by omega)
  have e2 : ((st.left - 1 : Nat) : Int) = (st.left : Int) - 1 := by omega
  rw [e2] at hp2
  have hm2 : Moves (rfp b vi vw) w ((w.setCell ⟨b, 5, none⟩ (.int .i64 ((st.calls : Int) + 1))).setCell ⟨b, 3, none⟩ (.int .i64 ((st.left : Int) - 1))) := hm.setCell _ _ (.inl (.inl rfl))
  have hge : (1 : Int) ≤ (st.left : Int) := by omega
  have e0 : ((st.left : Int) == 0) = false := by simp; omega
  by_cases hl1 : st.left = 1
  · have e3 : ({ st.counts with left := 0 } : PS).crash st.keep = st.counts.crash st.keep := by simp [PS.crash, PS.counts, ho, PS.crashOn]
    have Hs := Lib.hid (show st.lastS = ({ st.counts with left := 0 } : PS).crash st.keep by rw [e3]; simp [PS.lastS, hl1])
    have Hb := Lib.hid (show st.lastB = true by simp [PS.lastB, hl1])
    rw [hl1] at h2
    have hq2 := hp.setLeft 0 (by omega)
    have hmq : Moves (rfp b vi vw) w ((w.setCell ⟨b, 5, none⟩ (.int .i64 ((st.calls : Int) + 1))).setCell ⟨b, 3, none⟩ (.int .i64 0)) := hm.setCell _ _ (.inl (.inl rfl))
    have hc := rcrash_any hq2 hw st.keep hk
    clear hm2 hge hq2
    clear hl0 hl1 e2 e3 ho hp e0 hp2
    go_enter Try.func33, Try.ntmps33
    go_wp2_with fail
    refine hc.mono ?_
    rintro e w1 ⟨rfl, hto⟩
    go_wp2_with fail
    go_ret
    rw [Hs.out, Hb.out]
    exact ⟨rfl, .trans hmq (fun _ hh => .inl hh) hto⟩
  · have Hs := Lib.hid (show st.lastS = { st.counts with left := st.left - 1 } by simp [PS.lastS, hl0, hl1])
    have Hb := Lib.hid (show st.lastB = false by simp [PS.lastB, hl1])
    have hgt : decide ((0 : Int) < (st.left : Int) - 1) = true := by simp; omega
    have hge2 : (2 : Int) ≤ (st.left : Int) := by omega
    clear hl0 hl1 e2 ho hp
    go_enter Try.func33, Try.ntmps33
    go_wp2_with fail
    go_ret
    rw [Hs.out, Hb.out]
    exact ⟨rfl, .same hp2 hm2⟩
set_option maxRecDepth 100000 in
set_option maxHeartbeats 2000000 in
theorem rsync_any (h : IsRef w b vi vw st) (hn : st.calls < 1000000000) (hwl : st.wait.length < 1000000000) :
    Calls Try.prog 19 #[.pointer (some ⟨b, 0, none⟩)] w fun e w' => e = .returned (.int .i64 st.syncE) ∧ ToRef w b vi vw st.syncS w' := by
  have h1 := h.off
  cases ho : st.off
  · rw [ho] at h1
    have hc := counted_any h ho hn hwl
    cases hb : st.lastB
    · have Hs := Lib.hid (show st.syncS = st.lastS.settled by simp [PS.syncS, ho, hb])
      have He := Lib.hid (show st.syncE = 0 by simp [PS.syncE, ho, hb])
      rw [hb] at hc
      have hwl2 : st.lastS.wait.length < 1000000000 := by have := PS.wait_lastS st; omega
      clear hb ho
      go_enter Try.func19, Try.ntmps19
      go_wp2_with fail
      refine hc.mono ?_
      rintro e w1 ⟨rfl, vi1, vw1, hp1, hm1, hf1⟩
      clear hc
      generalize hS : st.lastS = s1 at hp1 hwl2 Hs
      have HS := Lib.hid hS
      clear hS
      have hfin : ∀ w2, IsRef w2 b vi1 (.slice none 0 0) s1.settled → Moves (rfp b vi1 vw1) w1 w2 → ToRef w b vi vw st.syncS w2 := by
        intro w2 h2 m2
        rw [Hs.out]
        exact .trans hm1 hf1 (.nil h2 m2)
      have Hfin := Lib.hid hfin
      clear hfin Hs
      have hw2 := hp1.cvw
      obtain ⟨⟨ai, ci, rfl⟩, aw, cw, rfl⟩ := hp1.lens
      go_wp2_with fail
      go_loopw [3] (fun c wr => ∃ k : Nat, k ≤ s1.wait.length ∧ c = .int .i64 (k : Int) ∧ IsRef wr b (.slice ai s1.is.length ci) (.slice aw s1.wait.length cw) { s1 with is := settle (fun _ => 32) 0 (s1.wait.take k) s1.is } ∧ Moves (rfp b (.slice ai s1.is.length ci) (.slice aw s1.wait.length cw)) w1 wr)
        (fun c _ => s1.wait.length - (intOf c).toNat)
      case atStart => exact ⟨0, Nat.zero_le _, rfl, hp1, Moves.refl _ _⟩
      case round =>
        obtain ⟨k, hk, rfl, hp, hm⟩ := hrel
        have h1' := hp.cvi
        have h2' := hp.cvw
        by_cases hlt : k < s1.wait.length
        · obtain ⟨x, hx⟩ : ∃ x, s1.wait[k]? = some x := ⟨_, List.getElem?_eq_getElem hlt⟩
          obtain ⟨g, c, hv, hc1, hc2, hg⟩ := hp.waiting hx
          simp only [Value.slice.injEq] at hv
          obtain ⟨rfl, -, rfl⟩ := hv
          have hwt := hp.ok.wt x (List.mem_of_getElem? hx)
          have hxi : x.1 < s1.size := hwt.1
          have hsl := hp.ok.len
          have hil : x.1 < (settle (fun _ => 32) 0 (s1.wait.take k) s1.is).length := by rw [hsl]; exact hxi
          obtain ⟨y, hy⟩ : ∃ y, (settle (fun _ => 32) 0 (s1.wait.take k) s1.is)[x.1]? = some y := ⟨_, List.getElem?_eq_getElem hil⟩
          obtain ⟨gi, ci', hvi, hcy, hgi, hfy⟩ := hp.sector hy
          simp only [Value.slice.injEq] at hvi
          obtain ⟨rfl, hls, rfl⟩ := hvi
          have hyl : y.length = 32 := hp.ok.sec y (List.mem_of_getElem? hy)
          obtain ⟨X, HX⟩ : ∃ X : ByteArray, Hid (X = ⟨x.2.toArray⟩) := ⟨_, rfl⟩
          obtain ⟨Y, HY⟩ : ∃ Y : ByteArray, Hid (Y = ⟨y.toArray⟩) := ⟨_, rfl⟩
          have hcX : wr.cell? ⟨g, k * 2 + 1, none⟩ = some (.string X) := by rw [HX.out]; exact hc2
          have hcY : wr.cell? ⟨gi, x.1, none⟩ = some (.string Y) := by rw [HY.out]; exact hcy
          have hil2 : (x.1 : Int) < (s1.is.length : Int) := by
            rw [length_settle] at hil
            omega
          have hfin2 : IsRef (wr.drew.setCell ⟨gi, x.1, none⟩ (.string X)) b (.slice (some ⟨gi, 0, none⟩) s1.is.length ci) (.slice (some ⟨g, 0, none⟩) s1.wait.length cw)
              { s1 with is := settle (fun _ => 32) 0 (s1.wait.take (k + 1)) s1.is } := by
            have e : s1.wait.take (k + 1) = s1.wait.take k ++ [x] := by rw [List.take_add_one, hx]; rfl
            have e2 : settle (fun _ => 32) 0 (s1.wait.take (k + 1)) s1.is = (settle (fun _ => 32) 0 (s1.wait.take k) s1.is).set x.1 x.2 := by
              rw [e, settle_snoc, put1, List.getD_eq_getElem?_getD, hy]
              simp only [Option.getD_some]
              rw [List.take_of_length_le (l := x.2) (by rw [hwt.2]; omega), List.drop_eq_nil_of_le (by rw [hyl]; omega), List.append_nil]
            have hp2 := hp.drew
            have h3 : s1.is.length = (settle (fun _ => 32) 0 (s1.wait.take k) s1.is).length := by rw [length_settle]
            have e3 : Value.string X = str x.2 := by rw [HX.out]; rfl
            rw [e2, e3]
            rw [h3] at hp2 ⊢
            exact IsRef.setSec (st := { s1 with is := settle (fun _ => 32) 0 (s1.wait.take k) s1.is }) hp2 x.1 _ hwt.2
          have Hfin2 := Lib.hid hfin2
          have Hmv := Lib.hid (show Moves (rfp b (.slice (some ⟨gi, 0, none⟩) s1.is.length ci) (.slice (some ⟨g, 0, none⟩) s1.wait.length cw)) w1 (wr.drew.setCell ⟨gi, x.1, none⟩ (.string X)) from hm.drew.setCell _ _ (.inl (.inr (.inl rfl))))
          clear hx hc2 hcy hy hyl hls hil hsl hwt hfin2
          go_wp2_with fail
          refine wp_region_still_tail 21 (by kernel_rfl) (by kernel_rfl) ?_
          simp only [List.take_succ_cons, List.take_zero, List.drop_succ_cons, List.drop_zero]
          iterate 21 still_step
          refine wpStill_nil ?_
          go_wp2_with fail
          go_roundw
          case rel => exact ⟨k + 1, by omega, by go_num, Hfin2.out, Hmv.out⟩
          case measure => simp [intOf]; omega
        · have e : settle (fun _ => 32) 0 (s1.wait.take k) s1.is = settle (fun _ => 32) 0 s1.wait s1.is := by rw [List.take_of_length_le (by omega)]
          have hq := hp.setNil
          rw [e] at hq
          have Hq := Lib.hid (Hfin.out _ hq (hm.setCell ⟨b, 1, none⟩ (.slice none 0 0) (.inl (.inl rfl))))
          have c1 := hp.fro 1
          clear hq e hp
          go_wp2_with fail
          go_ret
          rw [He.out]
          exact ⟨rfl, Hq.out⟩
    · have Hs := Lib.hid (show st.syncS = st.lastS by simp [PS.syncS, ho, hb])
      have He := Lib.hid (show st.syncE = 70 by simp [PS.syncE, hb])
      rw [hb] at hc
      clear hb ho
      go_enter Try.func19, Try.ntmps19
      go_wp2_with fail
      refine hc.mono ?_
      rintro e w1 ⟨rfl, hto⟩
      go_wp2_with fail
      go_ret
      rw [Hs.out, He.out]
      exact ⟨rfl, hto⟩
  · have Hs := Lib.hid (show st.syncS = st by simp [PS.syncS, ho])
    have He := Lib.hid (show st.syncE = 70 by simp [PS.syncE, ho])
    rw [ho] at h1
    clear ho
    go_enter Try.func19, Try.ntmps19
    go_wp2_with fail
    go_ret
    rw [Hs.out, He.out]
    exact ⟨rfl, .refl h⟩
end
end Go.Proofs.Ytahmnehfadiegaa
