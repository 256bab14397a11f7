/- BagCounts: its walk. -/
import Derived.Test.YtibpkdaiaoccjaaBag1
import Derived.Test.YtibpkdaiaoccjaaCount
import Derived.Test.YtibpkdaiaoccjaaHeavy
import Derived.Deep.RegionHeld3
import Derived.Deep.CutBlock
import Derived.Deep.DeepCutAuto
import Derived.Deep.LoopGhost
namespace Go.Proofs.Ytibpkdaiaoccjaa
open Go.RowKit
/-- A call in a block of its own. -/
def SBox (w : World) (u : Nat) (s : Stp) : Prop := u < w.heap.size ∧ ∀ j x, s.cells[j]? = some x → w.cell? ⟨u, j, none⟩ = some x
theorem SBox.keep {w w' : World} {u : Nat} {s : Stp} (h : SBox w u s) (hk : w'.heap[u]? = w.heap[u]?) (hs : u < w'.heap.size) : SBox w' u s :=
  ⟨hs, fun j x hj => (World.cell?_of_block (a := ⟨u, j, none⟩) hk).trans (h.2 j x hj)⟩
theorem SBox.made (w : World) (s : Stp) (t : TypeId) : SBox (w.alloc (.cells s.cells.toArray t)) w.heap.size s :=
  ⟨by simp, fun j x hj => by rw [World.cell?_alloc_new]; simpa using hj⟩
theorem B1.less {F : Frame} {w : World} {b : Nat} {l : List Ms} {K : Nat → Prop} {wk : World} (h : B1 F w b l) (hK : ∀ k, K k → F.K k ∧ F.wk.heap[k]? = wk.heap[k]?) : B1 { F with K := K, wk := wk } w b l := by
  obtain ⟨v, h1, f1, hb⟩ := h
  exact ⟨v, h1, fun k hk => ⟨(f1 k hk).1, fun hk' => (f1 k hk).2 (hK k hk').1⟩, hb.1, fun k hk => ⟨(hb.2 k (hK k hk).1).1, (hb.2 k (hK k hk).1).2.trans (hK k hk).2⟩⟩
set_option maxRecDepth 100000 in
set_option maxHeartbeats 8000000 in
theorem bagcounts_any {v : Value} {l : List Stp} {w : World} (ha : ArgRow w v 10 (l.map Stp.cells)) (hf : ∀ s ∈ l, s.fits) (m : Ms) :
    Calls Try.prog 6 #[v, m.val] w fun e w' => e = .returned (.bool true) ∧ Below w.heap.size w w' := by
  obtain ⟨base, cap, rfl, hm⟩ := ha.slice
  unfold maxLen at hm
  have hbA : Below w.heap.size w (w.alloc (.cells m.cells.toArray 23)) := (Below.refl _ _).alloc (Nat.le_refl _) _
  have hbxA := Boxed.made w m 23
  have hhv := heavy_any (ha.below hbA)
  have hst : ∀ wr, Below w.heap.size w wr → ∀ k s, l[k]? = some s → _ := fun wr hb k s hk => (ha.below hb).step (k := k) (s := s) hk
  have Hst := Lib.hid hst
  have Hf := Lib.hid hf
  have HbA := Lib.hid hbA
  have HbxA := Lib.hid hbxA
  clear hst ha hf hbA hbxA
  go_enter Try.func6, Try.ntmps6
  unfold Ms.val
  go_wp2_with fail
  refine hhv.mono ?_
  rintro e w1 ⟨B, rfl, -, rfl⟩
  clear hhv
  cases B
  case true =>
    go_wp2_with fail
    go_ret
    exact ⟨rfl, HbA.out⟩
  go_wp2_with fail
  refine (bnew_any (w := w.alloc (.cells m.cells.toArray 23))).mono ?_
  rintro e w1 ⟨rfl, hbag, hbe⟩
  have hB := B1.made (w0 := w) (K := fun k => k = w.heap.size) (B := w.heap.size) (by simp) HbA.out (fun k hk => by subst hk; simp) hbag hbe
  rw [show (w.alloc (.cells m.cells.toArray 23)).heap.size = w.heap.size + 1 by simp] at hB
  have hbx : ∀ w' L', B1 ⟨w.heap.size, w, fun k => k = w.heap.size, w.alloc (.cells m.cells.toArray 23)⟩ w' (w.heap.size + 1) L' → Boxed w' w.heap.size m := fun w' L' h =>
    HbxA.out.keep (h.kept rfl) (by obtain ⟨_, _, _, h4⟩ := h; have := (h4.2 w.heap.size rfl).1; simp; omega)
  have HB := Lib.hid hB
  have Hbx := Lib.hid hbx
  clear hbag hbe hB hbx
  go_wp2_with fail
  generalize hwk : w.alloc (.cells m.cells.toArray 23) = wk at HB Hbx HbA HbxA
  clear hwk HbxA HbA
  go_loopg [6, 7] (l.length) (fun g c i wr => ∃ (k : Nat) (L : List Ms), k ≤ l.length ∧ g = l.length - k ∧ i = .int .i64 (k : Int) ∧ c = .int .i64 (cnt m L : Int) ∧ B1 ⟨w.heap.size, w, fun k => k = w.heap.size, wk⟩ wr (w.heap.size + 1) L ∧ good L)
  case atStart => exact ⟨0, [], Nat.zero_le _, rfl, rfl, rfl, HB.out, good.nil⟩
  case round =>
    clear HB
    obtain ⟨k, L, hk, rfl, rfl, rfl, hp, hg⟩ := hrel
    by_cases hlt : k < l.length
    · obtain ⟨s, hs⟩ : ∃ s, l[k]? = some s := ⟨_, List.getElem?_eq_getElem hlt⟩
      obtain ⟨b, off, cap', hv, hbl, hc⟩ := Hst.out wr hp.below k s hs
      simp only [Value.slice.injEq, true_and] at hv
      obtain ⟨rfl, rfl⟩ := hv
      have hsf := Hf.out s (List.mem_of_getElem? hs)
      have q0 := hc 0 _ rfl
      rw [Nat.add_zero] at q0
      have q1 := hc 1 _ rfl
      have q2 := hc 2 _ rfl
      have q3 := hc 3 _ rfl
      have q4 := hc 4 _ rfl
      have q5 := hc 5 _ rfl
      have q6 := hc 6 _ rfl
      have q7 := hc 7 _ rfl
      have q8 := hc 8 _ rfl
      have q9 := hc 9 _ rfl
      have hp1 := hp.alloc (.cells s.cells.toArray 41)
      have hls := hp1.list (Nat.le_trans hg.1 (by omega))
      have hcL : cnt m L ≤ 64 := Nat.le_trans (cnt_le m L) hg.1
      have hg' := hg
      have HP := Lib.hid hp
      clear hc hs hp hp1 hg
      go_wp2_with fail
      refine hls.mono ?_
      rintro e w2 ⟨v2, rfl, ho2, hp2, hb2⟩
      have hs1 : (wr.alloc (.cells s.cells.toArray 41)).heap.size = wr.heap.size + 1 := by simp
      have hb02 : Below wr.heap.size wr w2 := ((Below.refl _ _).alloc (Nat.le_refl _) (.cells s.cells.toArray 41)).trans (hb2.mono (by simp))
      have hsz2 : wr.heap.size + 1 ≤ w2.heap.size := by have := hb2.size; rwa [hs1] at this
      have hbm : Boxed w2 w.heap.size m := Hbx.out _ _ hp2
      have hbs : SBox w2 wr.heap.size s := (SBox.made wr s 41).keep (hb2.block _ (by simp)) (by omega)
      have hwm : w.heap.size < wr.heap.size := (Hbx.out _ _ HP.out).1
      have hq := HP.out.more (K' := fun k => k = w.heap.size ∨ k = wr.heap.size) hb02 (fun k hk => by
        rcases hk with h | h
        · exact ⟨by omega, .inl h⟩
        · exact ⟨by omega, .inr (by omega)⟩)
      have hall : ∀ w' L', B1 ⟨w.heap.size, w, fun k => k = w.heap.size ∨ k = wr.heap.size, w2⟩ w' (w.heap.size + 1) L' → Boxed w' w.heap.size m ∧ SBox w' wr.heap.size s ∧ B1 ⟨w.heap.size, w, fun k => k = w.heap.size, wk⟩ w' (w.heap.size + 1) L' := fun w' L' h => by
        have h4 := h
        obtain ⟨_, _, _, hh⟩ := h4
        have k1 := hh.2 w.heap.size (.inl rfl)
        have k2 := hh.2 wr.heap.size (.inr rfl)
        exact ⟨⟨k1.1, fun j x hj => (World.cell?_of_block (a := ⟨w.heap.size, j, none⟩) k1.2).trans (hbm.2 j x hj)⟩, hbs.keep k2.2 k2.1, h.less fun k hk => ⟨.inl hk, hp2.kept hk⟩⟩
      obtain ⟨a2, cap2, rfl⟩ := row_len ho2
      have Hall := Lib.hid hall
      have HQ := Lib.hid hq
      have Ho2 := Lib.hid ho2
      generalize (fun k => k = w.heap.size ∨ k = wr.heap.size) = K' at Hall HQ
      generalize wr.heap.size = uo at Hall hbs hwm ⊢
      clear hls hp2 hb2 hb02 hbm hbs hq hall ho2 HP q0 q1 q2 q3 q4 q5 q6 q7 q8 q9 hsz2 hs1
      go_upto_region 10 with (fail)
      obtain ⟨y0, y1, y2, y3, y4, y5, y6, y7⟩ := (Hall.out _ _ HQ.out).1.all
      have o1 := (Hall.out _ _ HQ.out).2.1.2 1 _ rfl
      go_cut [10] from 18 to 140 (fun s10 wx => s10 = .bool (isAt L s.i m) ∧ ∃ n, wx = w2.drewN n)
      case first =>
        by_cases h0 : 0 ≤ s.i
        · have e0 : decide ((0 : Int) ≤ s.i) = true := by simpa using h0
          by_cases h1 : s.i < (L.length : Int)
          · have e1 : decide (s.i < (L.length : Int)) = true := by simpa using h1
            obtain ⟨x, hx⟩ : ∃ x, L[s.i.toNat]? = some x := ⟨_, List.getElem?_eq_getElem (by omega)⟩
            have hB : atB L s.i = true := by rw [atB, e0, e1]; rfl
            have hM : atM L s.i = x := by rw [atM, if_pos h0]; simp [List.getD_eq_getElem?_getD, hx]
            have hI : isAt L s.i m = x.eqb m := by rw [isAt, hB, hM, Ms.eqb_dec]; rfl
            obtain ⟨g, cap'', hv, -, hc⟩ := row_at Ho2.out hx
            simp only [Value.slice.injEq, true_and] at hv
            obtain ⟨rfl, rfl⟩ := hv
            have c0 := hc 0 _ rfl
            rw [Nat.add_zero] at c0
            have c1 := hc 1 _ rfl
            have c2 := hc 2 _ rfl
            have c3 := hc 3 _ rfl
            have c4 := hc 4 _ rfl
            have c5 := hc 5 _ rfl
            have c6 := hc 6 _ rfl
            have c7 := hc 7 _ rfl
            have heq := run_eql_msg x m
            generalize x.eqb m = eb at heq hI
            unfold Ms.val at heq
            have HI := Lib.hid hI
            clear hc hx hB hM hI
            cases eb
            all_goals
              go_quiet (fail)
              go_wp2_with fail
              go_meet
              exact ⟨by rw [HI.out], nq, rfl⟩
          · have e1 : decide (s.i < (L.length : Int)) = false := by simpa using h1
            have hI : isAt L s.i m = false := by rw [isAt, atB, e1, Bool.and_false, Bool.false_and]
            have HI := Lib.hid hI
            clear hI
            go_quiet (fail)
            go_wp2_with fail
            go_meet
            exact ⟨by rw [HI.out], nq, rfl⟩
        · have e0 : decide ((0 : Int) ≤ s.i) = false := by simpa using h0
          have hI : isAt L s.i m = false := by rw [isAt, atB, e0, Bool.false_and, Bool.false_and]
          have HI := Lib.hid hI
          clear hI
          go_quiet (fail)
          go_wp2_with fail
          go_meet
          exact ⟨by rw [HI.out], nq, rfl⟩
      case rest =>
        obtain ⟨rfl, n, rfl⟩ := hcut
        have HN := Lib.hid (HQ.out.drewN n)
        have hall2 := Hall.out _ _ HN.out
        obtain ⟨x0, x1, x2, x3, x4, x5, x6, x7⟩ := hall2.1.all
        have o0 := hall2.2.1.2 0 _ rfl
        have o1 := hall2.2.1.2 1 _ rfl
        have o2 := hall2.2.1.2 2 _ rfl
        have o3 := hall2.2.1.2 3 _ rfl
        have o4 := hall2.2.1.2 4 _ rfl
        have o5 := hall2.2.1.2 5 _ rfl
        have o6 := hall2.2.1.2 6 _ rfl
        have o7 := hall2.2.1.2 7 _ rfl
        have o8 := hall2.2.1.2 8 _ rfl
        have o9 := hall2.2.1.2 9 _ rfl
        generalize w2.drewN n = W at HN x0 x1 x2 x3 x4 x5 x6 x7 o0 o1 o2 o3 o4 o5 o6 o7 o8 o9 ⊢
        generalize hth : isAt L s.i m = th
        have HTH := Lib.hid hth
        clear hall2 Ho2 hth
        go_upto_block 2 with (fail)
        go_cut [6, 11, 12] from 18 to 140 (fun s6 s11 s12 wx => ∃ L2, s6 = .int .i64 (cnt m L2 : Int) ∧ B1 ⟨w.heap.size, w, K', w2⟩ wx (w.heap.size + 1) L2 ∧ good L2)
        case first =>
          -- BRANCHES
          by_cases hk0 : s.kind = 0
          · have k0 : (s.kind == 0) = true := by simp; omega
            clear hk0
            have hsd := HN.out.send hg'.1 s.m hsf.2.2
            have hcs := cnt_send m s.m L
            have hg2 := hg'.send hsf.2.2
            have heq := run_eql_msg s.m m
            generalize sendE L s.m = ee at hsd hcs
            generalize sendS L s.m = L2 at hsd hcs hg2
            unfold Ms.val at hsd heq
            by_cases hok : ee = 0
            · subst hok
              by_cases hem : s.m = m
              · rw [(Ms.eqb_iff _ _).2 hem] at heq
                rw [if_pos ⟨rfl, hem⟩] at hcs
                have Hcs := Lib.hid hcs
                clear hem hcs
                go_wp2_with fail
                refine hsd.mono ?_
                rintro e w3 ⟨rfl, hp3⟩
                clear x0 x1 x2 x3 x4 x5 x6 x7 o0 o1 o2 o3 o4 o5 o6 o7 o8 o9
                have hall3 := Hall.out _ _ hp3
                obtain ⟨x0, x1, x2, x3, x4, x5, x6, x7⟩ := hall3.1.all
                have o0 := hall3.2.1.2 0 _ rfl
                have o1 := hall3.2.1.2 1 _ rfl
                have o2 := hall3.2.1.2 2 _ rfl
                have o3 := hall3.2.1.2 3 _ rfl
                have o4 := hall3.2.1.2 4 _ rfl
                have o5 := hall3.2.1.2 5 _ rfl
                have o6 := hall3.2.1.2 6 _ rfl
                have o7 := hall3.2.1.2 7 _ rfl
                have o8 := hall3.2.1.2 8 _ rfl
                have o9 := hall3.2.1.2 9 _ rfl
                have lt1 := hall3.1.1
                have lt2 := hall3.2.1.1
                have HP3 := Lib.hid hp3
                clear hall3 hp3
                clear hsd
                go_wp2_with fail
                clear heq x0 x1 x2 x3 x4 x5 x6 x7 o0 o1 o2 o3 o4 o5 o6 o7 o8 o9
                go_meet
                exact ⟨L2, by rw [Hcs.out]; try go_num, HP3.out, hg2⟩
              · rw [show s.m.eqb m = false by rw [Ms.eqb_dec]; simpa using hem] at heq
                rw [if_neg (fun h => hem h.2), Int.add_zero] at hcs
                have Hcs := Lib.hid hcs
                clear hem hcs
                go_wp2_with fail
                refine hsd.mono ?_
                rintro e w3 ⟨rfl, hp3⟩
                clear x0 x1 x2 x3 x4 x5 x6 x7 o0 o1 o2 o3 o4 o5 o6 o7 o8 o9
                have hall3 := Hall.out _ _ hp3
                obtain ⟨x0, x1, x2, x3, x4, x5, x6, x7⟩ := hall3.1.all
                have o0 := hall3.2.1.2 0 _ rfl
                have o1 := hall3.2.1.2 1 _ rfl
                have o2 := hall3.2.1.2 2 _ rfl
                have o3 := hall3.2.1.2 3 _ rfl
                have o4 := hall3.2.1.2 4 _ rfl
                have o5 := hall3.2.1.2 5 _ rfl
                have o6 := hall3.2.1.2 6 _ rfl
                have o7 := hall3.2.1.2 7 _ rfl
                have o8 := hall3.2.1.2 8 _ rfl
                have o9 := hall3.2.1.2 9 _ rfl
                have lt1 := hall3.1.1
                have lt2 := hall3.2.1.1
                have HP3 := Lib.hid hp3
                clear hall3 hp3
                clear hsd
                go_wp2_with fail
                clear heq x0 x1 x2 x3 x4 x5 x6 x7 o0 o1 o2 o3 o4 o5 o6 o7 o8 o9
                go_meet
                exact ⟨L2, by rw [Hcs.out]; try go_num, HP3.out, hg2⟩
            · rw [if_neg (fun h => hok h.1), Int.add_zero] at hcs
              have e0 : (ee == 0) = false := by simpa using hok
              have Hcs := Lib.hid hcs
              clear hok hcs heq
              go_wp2_with fail
              refine hsd.mono ?_
              rintro e w3 ⟨rfl, hp3⟩
              clear x0 x1 x2 x3 x4 x5 x6 x7 o0 o1 o2 o3 o4 o5 o6 o7 o8 o9
              have hall3 := Hall.out _ _ hp3
              obtain ⟨x0, x1, x2, x3, x4, x5, x6, x7⟩ := hall3.1.all
              have o0 := hall3.2.1.2 0 _ rfl
              have o1 := hall3.2.1.2 1 _ rfl
              have o2 := hall3.2.1.2 2 _ rfl
              have o3 := hall3.2.1.2 3 _ rfl
              have o4 := hall3.2.1.2 4 _ rfl
              have o5 := hall3.2.1.2 5 _ rfl
              have o6 := hall3.2.1.2 6 _ rfl
              have o7 := hall3.2.1.2 7 _ rfl
              have o8 := hall3.2.1.2 8 _ rfl
              have o9 := hall3.2.1.2 9 _ rfl
              have lt1 := hall3.1.1
              have lt2 := hall3.2.1.1
              have HP3 := Lib.hid hp3
              clear hall3 hp3
              clear hsd
              go_wp2_with fail
              go_meet
              exact ⟨L2, by rw [Hcs.out]; try go_num, HP3.out, hg2⟩
          by_cases hk1 : s.kind = 1
          · have k0 : (s.kind == 0) = false := by simp; omega
            have k1 : (s.kind == 1) = true := by simp; omega
            clear hk0 hk1
            have htk := HN.out.take hg'.1 s.i
            have hct := cnt_take m L s.i
            have hg2 := hg'.take s.i
            have hle : isAt L s.i m = true → 1 ≤ cnt m L := cnt_isAt
            rw [HTH.out] at hct hle
            have hth : (atB L s.i && (atM L s.i).eqb m) = th := by rw [← HTH.out, isAt, Ms.eqb_dec]
            have heq := run_eql_msg (atM L s.i) m
            generalize takeL L s.i = L2 at htk hct hg2
            generalize atM L s.i = M at htk hth heq
            cases hB : atB L s.i
            · rw [hB] at htk hth
              simp only [Bool.false_and] at hth
              subst hth
              simp only [Bool.false_eq_true, if_false] at htk hct
              rw [Int.sub_zero] at hct
              have Hcs := Lib.hid hct
              unfold Ms.val at htk
              clear hct heq hB hle
              go_wp2_with fail
              refine htk.mono ?_
              rintro e w3 ⟨rfl, hp3⟩
              clear x0 x1 x2 x3 x4 x5 x6 x7 o0 o1 o2 o3 o4 o5 o6 o7 o8 o9
              have hall3 := Hall.out _ _ hp3
              obtain ⟨x0, x1, x2, x3, x4, x5, x6, x7⟩ := hall3.1.all
              have o0 := hall3.2.1.2 0 _ rfl
              have o1 := hall3.2.1.2 1 _ rfl
              have o2 := hall3.2.1.2 2 _ rfl
              have o3 := hall3.2.1.2 3 _ rfl
              have o4 := hall3.2.1.2 4 _ rfl
              have o5 := hall3.2.1.2 5 _ rfl
              have o6 := hall3.2.1.2 6 _ rfl
              have o7 := hall3.2.1.2 7 _ rfl
              have o8 := hall3.2.1.2 8 _ rfl
              have o9 := hall3.2.1.2 9 _ rfl
              have lt1 := hall3.1.1
              have lt2 := hall3.2.1.1
              have HP3 := Lib.hid hp3
              clear hall3 hp3
              clear htk
              go_wp2_with fail
              go_meet
              exact ⟨L2, by rw [Hcs.out], HP3.out.alloc _, hg2⟩
            · rw [hB] at htk hth
              simp only [Bool.true_and] at hth
              rw [hth] at heq
              simp only [if_true] at htk
              unfold Ms.val at htk heq
              clear hB hth
              cases th
              · simp only [Bool.false_eq_true, if_false, Int.sub_zero] at hct
                have Hcs := Lib.hid hct
                clear hct hle
                go_wp2_with fail
                refine htk.mono ?_
                rintro e w3 ⟨rfl, hp3⟩
                clear x0 x1 x2 x3 x4 x5 x6 x7 o0 o1 o2 o3 o4 o5 o6 o7 o8 o9
                have hall3 := Hall.out _ _ hp3
                obtain ⟨x0, x1, x2, x3, x4, x5, x6, x7⟩ := hall3.1.all
                have o0 := hall3.2.1.2 0 _ rfl
                have o1 := hall3.2.1.2 1 _ rfl
                have o2 := hall3.2.1.2 2 _ rfl
                have o3 := hall3.2.1.2 3 _ rfl
                have o4 := hall3.2.1.2 4 _ rfl
                have o5 := hall3.2.1.2 5 _ rfl
                have o6 := hall3.2.1.2 6 _ rfl
                have o7 := hall3.2.1.2 7 _ rfl
                have o8 := hall3.2.1.2 8 _ rfl
                have o9 := hall3.2.1.2 9 _ rfl
                have lt1 := hall3.1.1
                have lt2 := hall3.2.1.1
                have HP3 := Lib.hid hp3
                clear hall3 hp3
                clear htk
                go_wp2_with fail
                clear heq x0 x1 x2 x3 x4 x5 x6 x7 o0 o1 o2 o3 o4 o5 o6 o7 o8 o9
                go_meet
                exact ⟨L2, by rw [Hcs.out], HP3.out.alloc _, hg2⟩
              · simp only [if_true] at hct
                have hl1 := hle rfl
                have Hcs := Lib.hid hct
                clear hct hle
                go_wp2_with fail
                refine htk.mono ?_
                rintro e w3 ⟨rfl, hp3⟩
                clear x0 x1 x2 x3 x4 x5 x6 x7 o0 o1 o2 o3 o4 o5 o6 o7 o8 o9
                have hall3 := Hall.out _ _ hp3
                obtain ⟨x0, x1, x2, x3, x4, x5, x6, x7⟩ := hall3.1.all
                have o0 := hall3.2.1.2 0 _ rfl
                have o1 := hall3.2.1.2 1 _ rfl
                have o2 := hall3.2.1.2 2 _ rfl
                have o3 := hall3.2.1.2 3 _ rfl
                have o4 := hall3.2.1.2 4 _ rfl
                have o5 := hall3.2.1.2 5 _ rfl
                have o6 := hall3.2.1.2 6 _ rfl
                have o7 := hall3.2.1.2 7 _ rfl
                have o8 := hall3.2.1.2 8 _ rfl
                have o9 := hall3.2.1.2 9 _ rfl
                have lt1 := hall3.1.1
                have lt2 := hall3.2.1.1
                have HP3 := Lib.hid hp3
                clear hall3 hp3
                clear htk
                go_wp2_with fail
                clear heq x0 x1 x2 x3 x4 x5 x6 x7 o0 o1 o2 o3 o4 o5 o6 o7 o8 o9
                go_meet
                exact ⟨L2, by rw [Hcs.out], HP3.out.alloc _, hg2⟩
          by_cases hk2 : s.kind = 2
          · have k0 : (s.kind == 0) = false := by simp; omega
            have k1 : (s.kind == 1) = false := by simp; omega
            have k2 : (s.kind == 2) = true := by simp; omega
            clear hk0 hk1 hk2
            have htw := HN.out.twice hg'.1 s.i
            have hct := cnt_twice m L s.i
            have hg2 := hg'.twice s.i
            rw [HTH.out] at hct
            generalize twiceL L s.i = L2 at htw hct hg2
            generalize twiceE L s.i = ee at htw hct
            by_cases hok : ee = 0
            · subst hok
              cases th
              · rw [if_neg (by simp), Int.add_zero] at hct
                have Hcs := Lib.hid hct
                clear hct
                go_wp2_with fail
                refine htw.mono ?_
                rintro e w3 ⟨rfl, hp3⟩
                clear x0 x1 x2 x3 x4 x5 x6 x7 o0 o1 o2 o3 o4 o5 o6 o7 o8 o9
                have hall3 := Hall.out _ _ hp3
                obtain ⟨x0, x1, x2, x3, x4, x5, x6, x7⟩ := hall3.1.all
                have o0 := hall3.2.1.2 0 _ rfl
                have o1 := hall3.2.1.2 1 _ rfl
                have o2 := hall3.2.1.2 2 _ rfl
                have o3 := hall3.2.1.2 3 _ rfl
                have o4 := hall3.2.1.2 4 _ rfl
                have o5 := hall3.2.1.2 5 _ rfl
                have o6 := hall3.2.1.2 6 _ rfl
                have o7 := hall3.2.1.2 7 _ rfl
                have o8 := hall3.2.1.2 8 _ rfl
                have o9 := hall3.2.1.2 9 _ rfl
                have lt1 := hall3.1.1
                have lt2 := hall3.2.1.1
                have HP3 := Lib.hid hp3
                clear hall3 hp3
                clear htw
                go_wp2_with fail
                go_meet
                exact ⟨L2, by rw [Hcs.out]; try go_num, HP3.out, hg2⟩
              · rw [if_pos ⟨rfl, rfl⟩] at hct
                have Hcs := Lib.hid hct
                clear hct
                go_wp2_with fail
                refine htw.mono ?_
                rintro e w3 ⟨rfl, hp3⟩
                clear x0 x1 x2 x3 x4 x5 x6 x7 o0 o1 o2 o3 o4 o5 o6 o7 o8 o9
                have hall3 := Hall.out _ _ hp3
                obtain ⟨x0, x1, x2, x3, x4, x5, x6, x7⟩ := hall3.1.all
                have o0 := hall3.2.1.2 0 _ rfl
                have o1 := hall3.2.1.2 1 _ rfl
                have o2 := hall3.2.1.2 2 _ rfl
                have o3 := hall3.2.1.2 3 _ rfl
                have o4 := hall3.2.1.2 4 _ rfl
                have o5 := hall3.2.1.2 5 _ rfl
                have o6 := hall3.2.1.2 6 _ rfl
                have o7 := hall3.2.1.2 7 _ rfl
                have o8 := hall3.2.1.2 8 _ rfl
                have o9 := hall3.2.1.2 9 _ rfl
                have lt1 := hall3.1.1
                have lt2 := hall3.2.1.1
                have HP3 := Lib.hid hp3
                clear hall3 hp3
                clear htw
                go_wp2_with fail
                go_meet
                exact ⟨L2, by rw [Hcs.out]; try go_num, HP3.out, hg2⟩
            · rw [if_neg (fun h => hok h.1), Int.add_zero] at hct
              have e0 : (ee == 0) = false := by simpa using hok
              have Hcs := Lib.hid hct
              clear hct hok
              go_wp2_with fail
              refine htw.mono ?_
              rintro e w3 ⟨rfl, hp3⟩
              clear x0 x1 x2 x3 x4 x5 x6 x7 o0 o1 o2 o3 o4 o5 o6 o7 o8 o9
              have hall3 := Hall.out _ _ hp3
              obtain ⟨x0, x1, x2, x3, x4, x5, x6, x7⟩ := hall3.1.all
              have o0 := hall3.2.1.2 0 _ rfl
              have o1 := hall3.2.1.2 1 _ rfl
              have o2 := hall3.2.1.2 2 _ rfl
              have o3 := hall3.2.1.2 3 _ rfl
              have o4 := hall3.2.1.2 4 _ rfl
              have o5 := hall3.2.1.2 5 _ rfl
              have o6 := hall3.2.1.2 6 _ rfl
              have o7 := hall3.2.1.2 7 _ rfl
              have o8 := hall3.2.1.2 8 _ rfl
              have o9 := hall3.2.1.2 9 _ rfl
              have lt1 := hall3.1.1
              have lt2 := hall3.2.1.1
              have HP3 := Lib.hid hp3
              clear hall3 hp3
              clear htw
              go_wp2_with fail
              go_meet
              exact ⟨L2, by rw [Hcs.out]; try go_num, HP3.out, hg2⟩
          by_cases hk3 : s.kind = 3
          · have k0 : (s.kind == 0) = false := by simp; omega
            have k1 : (s.kind == 1) = false := by simp; omega
            have k2 : (s.kind == 2) = false := by simp; omega
            have k3 : (s.kind == 3) = true := by simp; omega
            clear hk0 hk1 hk2 hk3
            have hdr := HN.out.drop hg'.1 s.i
            have hct := cnt_take m L s.i
            have hg2 := hg'.take s.i
            have hle : isAt L s.i m = true → 1 ≤ cnt m L := cnt_isAt
            rw [HTH.out] at hct hle
            have hth : atB L s.i = false → th = false := fun h => by rw [← HTH.out, isAt, h]; rfl
            generalize takeL L s.i = L2 at hdr hct hg2
            cases hB : atB L s.i
            · rw [hB] at hdr
              have := hth hB
              subst this
              simp only [Bool.false_eq_true, if_false, Int.sub_zero] at hdr hct
              have Hcs := Lib.hid hct
              clear hct hB hle hth
              go_wp2_with fail
              refine hdr.mono ?_
              rintro e w3 ⟨rfl, hp3⟩
              clear x0 x1 x2 x3 x4 x5 x6 x7 o0 o1 o2 o3 o4 o5 o6 o7 o8 o9
              have hall3 := Hall.out _ _ hp3
              obtain ⟨x0, x1, x2, x3, x4, x5, x6, x7⟩ := hall3.1.all
              have o0 := hall3.2.1.2 0 _ rfl
              have o1 := hall3.2.1.2 1 _ rfl
              have o2 := hall3.2.1.2 2 _ rfl
              have o3 := hall3.2.1.2 3 _ rfl
              have o4 := hall3.2.1.2 4 _ rfl
              have o5 := hall3.2.1.2 5 _ rfl
              have o6 := hall3.2.1.2 6 _ rfl
              have o7 := hall3.2.1.2 7 _ rfl
              have o8 := hall3.2.1.2 8 _ rfl
              have o9 := hall3.2.1.2 9 _ rfl
              have lt1 := hall3.1.1
              have lt2 := hall3.2.1.1
              have HP3 := Lib.hid hp3
              clear hall3 hp3
              clear hdr
              go_wp2_with fail
              go_meet
              exact ⟨L2, by rw [Hcs.out]; try go_num, HP3.out, hg2⟩
            · rw [hB] at hdr
              simp only [if_true] at hdr
              clear hB hth
              cases th
              · simp only [Bool.false_eq_true, if_false, Int.sub_zero] at hct
                have Hcs := Lib.hid hct
                clear hct hle
                go_wp2_with fail
                refine hdr.mono ?_
                rintro e w3 ⟨rfl, hp3⟩
                clear x0 x1 x2 x3 x4 x5 x6 x7 o0 o1 o2 o3 o4 o5 o6 o7 o8 o9
                have hall3 := Hall.out _ _ hp3
                obtain ⟨x0, x1, x2, x3, x4, x5, x6, x7⟩ := hall3.1.all
                have o0 := hall3.2.1.2 0 _ rfl
                have o1 := hall3.2.1.2 1 _ rfl
                have o2 := hall3.2.1.2 2 _ rfl
                have o3 := hall3.2.1.2 3 _ rfl
                have o4 := hall3.2.1.2 4 _ rfl
                have o5 := hall3.2.1.2 5 _ rfl
                have o6 := hall3.2.1.2 6 _ rfl
                have o7 := hall3.2.1.2 7 _ rfl
                have o8 := hall3.2.1.2 8 _ rfl
                have o9 := hall3.2.1.2 9 _ rfl
                have lt1 := hall3.1.1
                have lt2 := hall3.2.1.1
                have HP3 := Lib.hid hp3
                clear hall3 hp3
                clear hdr
                go_wp2_with fail
                go_meet
                exact ⟨L2, by rw [Hcs.out]; try go_num, HP3.out, hg2⟩
              · simp only [if_true] at hct
                have hl1 := hle rfl
                have Hcs := Lib.hid hct
                clear hct hle
                go_wp2_with fail
                refine hdr.mono ?_
                rintro e w3 ⟨rfl, hp3⟩
                clear x0 x1 x2 x3 x4 x5 x6 x7 o0 o1 o2 o3 o4 o5 o6 o7 o8 o9
                have hall3 := Hall.out _ _ hp3
                obtain ⟨x0, x1, x2, x3, x4, x5, x6, x7⟩ := hall3.1.all
                have o0 := hall3.2.1.2 0 _ rfl
                have o1 := hall3.2.1.2 1 _ rfl
                have o2 := hall3.2.1.2 2 _ rfl
                have o3 := hall3.2.1.2 3 _ rfl
                have o4 := hall3.2.1.2 4 _ rfl
                have o5 := hall3.2.1.2 5 _ rfl
                have o6 := hall3.2.1.2 6 _ rfl
                have o7 := hall3.2.1.2 7 _ rfl
                have o8 := hall3.2.1.2 8 _ rfl
                have o9 := hall3.2.1.2 9 _ rfl
                have lt1 := hall3.1.1
                have lt2 := hall3.2.1.1
                have HP3 := Lib.hid hp3
                clear hall3 hp3
                clear hdr
                go_wp2_with fail
                go_meet
                exact ⟨L2, by rw [Hcs.out]; try go_num, HP3.out, hg2⟩
          by_cases hk4 : s.kind = 4
          · have k0 : (s.kind == 0) = false := by simp; omega
            have k1 : (s.kind == 1) = false := by simp; omega
            have k2 : (s.kind == 2) = false := by simp; omega
            have k3 : (s.kind == 3) = false := by simp; omega
            have k4 : (s.kind == 4) = true := by simp; omega
            clear hk0 hk1 hk2 hk3 hk4
            have hla := HN.out.late hg'.1 s.i
            have hct := cnt_late m L s.i
            have hg2 := hg'.late s.i
            generalize lateL L s.i = L2 at hla hct hg2
            generalize (if atB L s.i then (0 : Int) else 3) = ee at hla
            have Hcs := Lib.hid hct
            clear hct
            go_wp2_with fail
            refine hla.mono ?_
            rintro e w3 ⟨rfl, hp3⟩
            clear x0 x1 x2 x3 x4 x5 x6 x7 o0 o1 o2 o3 o4 o5 o6 o7 o8 o9
            have hall3 := Hall.out _ _ hp3
            obtain ⟨x0, x1, x2, x3, x4, x5, x6, x7⟩ := hall3.1.all
            have o0 := hall3.2.1.2 0 _ rfl
            have o1 := hall3.2.1.2 1 _ rfl
            have o2 := hall3.2.1.2 2 _ rfl
            have o3 := hall3.2.1.2 3 _ rfl
            have o4 := hall3.2.1.2 4 _ rfl
            have o5 := hall3.2.1.2 5 _ rfl
            have o6 := hall3.2.1.2 6 _ rfl
            have o7 := hall3.2.1.2 7 _ rfl
            have o8 := hall3.2.1.2 8 _ rfl
            have o9 := hall3.2.1.2 9 _ rfl
            have lt1 := hall3.1.1
            have lt2 := hall3.2.1.1
            have HP3 := Lib.hid hp3
            clear hall3 hp3
            clear hla
            go_wp2_with fail
            go_meet
            exact ⟨L2, by rw [Hcs.out], HP3.out, hg2⟩
          by_cases hk5 : s.kind = 5
          · have k0 : (s.kind == 0) = false := by simp; omega
            have k1 : (s.kind == 1) = false := by simp; omega
            have k2 : (s.kind == 2) = false := by simp; omega
            have k3 : (s.kind == 3) = false := by simp; omega
            have k4 : (s.kind == 4) = false := by simp; omega
            have k5 : (s.kind == 5) = true := by simp; omega
            clear hk0 hk1 hk2 hk3 hk4 hk5
            have hcu := HN.out.cut hg'.1 s.i
            have hct := cnt_cut m L s.i
            have hg2 := hg'.keep (wishOf s.i)
            generalize hnn : (L.length : Int) - ((keepL (wishOf s.i) 0 L).length : Int) = nn at hcu
            generalize keepL (wishOf s.i) 0 L = L2 at hcu hct hg2
            clear hnn
            cases h1 : (m.dst == s.i)
            · rw [h1, Bool.false_or] at hct
              cases h2 : (m.src == s.i)
              · rw [h2] at hct
                simp only [Bool.false_eq_true, if_false] at hct
                have Hcs := Lib.hid hct
                clear hct
                go_wp2_with fail
                refine hcu.mono ?_
                rintro e w3 ⟨rfl, hp3⟩
                clear x0 x1 x2 x3 x4 x5 x6 x7 o0 o1 o2 o3 o4 o5 o6 o7 o8 o9
                have hall3 := Hall.out _ _ hp3
                obtain ⟨x0, x1, x2, x3, x4, x5, x6, x7⟩ := hall3.1.all
                have o0 := hall3.2.1.2 0 _ rfl
                have o1 := hall3.2.1.2 1 _ rfl
                have o2 := hall3.2.1.2 2 _ rfl
                have o3 := hall3.2.1.2 3 _ rfl
                have o4 := hall3.2.1.2 4 _ rfl
                have o5 := hall3.2.1.2 5 _ rfl
                have o6 := hall3.2.1.2 6 _ rfl
                have o7 := hall3.2.1.2 7 _ rfl
                have o8 := hall3.2.1.2 8 _ rfl
                have o9 := hall3.2.1.2 9 _ rfl
                have lt1 := hall3.1.1
                have lt2 := hall3.2.1.1
                have HP3 := Lib.hid hp3
                clear hall3 hp3
                clear hcu
                go_wp2_with fail
                go_meet
                exact ⟨L2, by rw [Hcs.out], HP3.out, hg2⟩
              · rw [h2, if_pos rfl] at hct
                have Hcs := Lib.hid hct
                clear hct
                go_wp2_with fail
                refine hcu.mono ?_
                rintro e w3 ⟨rfl, hp3⟩
                clear x0 x1 x2 x3 x4 x5 x6 x7 o0 o1 o2 o3 o4 o5 o6 o7 o8 o9
                have hall3 := Hall.out _ _ hp3
                obtain ⟨x0, x1, x2, x3, x4, x5, x6, x7⟩ := hall3.1.all
                have o0 := hall3.2.1.2 0 _ rfl
                have o1 := hall3.2.1.2 1 _ rfl
                have o2 := hall3.2.1.2 2 _ rfl
                have o3 := hall3.2.1.2 3 _ rfl
                have o4 := hall3.2.1.2 4 _ rfl
                have o5 := hall3.2.1.2 5 _ rfl
                have o6 := hall3.2.1.2 6 _ rfl
                have o7 := hall3.2.1.2 7 _ rfl
                have o8 := hall3.2.1.2 8 _ rfl
                have o9 := hall3.2.1.2 9 _ rfl
                have lt1 := hall3.1.1
                have lt2 := hall3.2.1.1
                have HP3 := Lib.hid hp3
                clear hall3 hp3
                clear hcu
                go_wp2_with fail
                go_meet
                exact ⟨L2, by rw [Hcs.out]; rfl, HP3.out, hg2⟩
            · rw [h1, Bool.true_or, if_pos rfl] at hct
              have Hcs := Lib.hid hct
              clear hct
              go_wp2_with fail
              refine hcu.mono ?_
              rintro e w3 ⟨rfl, hp3⟩
              clear x0 x1 x2 x3 x4 x5 x6 x7 o0 o1 o2 o3 o4 o5 o6 o7 o8 o9
              have hall3 := Hall.out _ _ hp3
              obtain ⟨x0, x1, x2, x3, x4, x5, x6, x7⟩ := hall3.1.all
              have o0 := hall3.2.1.2 0 _ rfl
              have o1 := hall3.2.1.2 1 _ rfl
              have o2 := hall3.2.1.2 2 _ rfl
              have o3 := hall3.2.1.2 3 _ rfl
              have o4 := hall3.2.1.2 4 _ rfl
              have o5 := hall3.2.1.2 5 _ rfl
              have o6 := hall3.2.1.2 6 _ rfl
              have o7 := hall3.2.1.2 7 _ rfl
              have o8 := hall3.2.1.2 8 _ rfl
              have o9 := hall3.2.1.2 9 _ rfl
              have lt1 := hall3.1.1
              have lt2 := hall3.2.1.1
              have HP3 := Lib.hid hp3
              clear hall3 hp3
              clear hcu
              go_wp2_with fail
              go_meet
              exact ⟨L2, by rw [Hcs.out]; rfl, HP3.out, hg2⟩
          have k0 : (s.kind == 0) = false := by simp; omega
          have k1 : (s.kind == 1) = false := by simp; omega
          have k2 : (s.kind == 2) = false := by simp; omega
          have k3 : (s.kind == 3) = false := by simp; omega
          have k4 : (s.kind == 4) = false := by simp; omega
          have k5 : (s.kind == 5) = false := by simp; omega
          clear hk0 hk1 hk2 hk3 hk4 hk5
          go_wp2_with fail
          go_meet
          exact ⟨L, rfl, HN.out, hg'⟩
          -- BRANCHES END
        case rest =>
          obtain ⟨L2, rfl, hp2, hg2⟩ := hcut
          have hY : ∀ W, Below wc.heap.size wc W → Boxed W w.heap.size m ∧ B1 ⟨w.heap.size, w, K', w2⟩ W (w.heap.size + 1) L2 := fun W hb => ⟨(Hall.out _ _ (hp2.quiet hb)).1, hp2.quiet hb⟩
          have hL2 : L2.length ≤ 1000 := Nat.le_trans hg2.1 (by omega)
          have hS : ∀ w', Below wc.heap.size wc w' → (w'.cell? ⟨w.heap.size, 0, none⟩ = some (.int .i64 m.kind) ∧ w'.cell? ⟨w.heap.size, 1, none⟩ = some (.int .i64 m.src) ∧ w'.cell? ⟨w.heap.size, 2, none⟩ = some (.int .i64 m.dst) ∧ w'.cell? ⟨w.heap.size, 3, none⟩ = some (.int .i64 m.epoch) ∧ w'.cell? ⟨w.heap.size, 4, none⟩ = some (.int .i64 m.seq) ∧ w'.cell? ⟨w.heap.size, 5, none⟩ = some (.int .i64 m.off) ∧ w'.cell? ⟨w.heap.size, 6, none⟩ = some (.int .i64 m.len) ∧ w'.cell? ⟨w.heap.size, 7, none⟩ = some (.string m.data)) := fun w' hb => (hY w' hb).1.all
          have hLst : ∀ W, Below wc.heap.size wc W → Calls Try.prog 12 #[.pointer (some ⟨w.heap.size + 1, 0, none⟩)] W fun e w' => ∃ v', e = .returned v' ∧ RowM w' v' L2 ∧ Below wc.heap.size wc w' ∧ KeepsM W w' := fun W hW =>
            ((hY W hW).2.list hL2).mono fun e w' ⟨v', h1, h2, h3, h4⟩ => ⟨v', h1, ownsRow_base h2 fun k hk => Nat.zero_le _, hW.trans (h4.mono hW.size), KeepsM.of h4⟩
          have hCnt : ∀ W v, Below wc.heap.size wc W → RowM W v L2 → Calls Try.prog 21 #[v, m.val] W fun e w' => e = .returned (.int .i64 (cnt m L2 : Int)) ∧ Below wc.heap.size wc w' ∧ KeepsM W w' := fun W v hW hr =>
            (count_any hr hL2 m).mono fun e w' ⟨h1, h4⟩ => ⟨h1, hW.trans (h4.mono hW.size), KeepsM.of h4⟩
          unfold Ms.val at hCnt
          have HLst := Lib.hid hLst
          have HCnt := Lib.hid hCnt
          have HS := Lib.hid hS
          have HP2 := Lib.hid hp2
          have hg3 := hg2
          have g : Below wc.heap.size wc wc := Below.refl _ _
          have hz0 := hS wc.drew (Below.refl _ _).drew
          clear hLst hCnt hS hY hp2 hg2 x0 x1 x2 x3 x4 x5 x6 x7 o0 o1 o2 o3 o4 o5 o6 o7 o8 o9 y0 y1 y2 y3 y4 y5 y6 y7
          go_wp2_with fail
          go_region_held3 (fun w' => w'.cell? ⟨w.heap.size, 0, none⟩ = some (.int .i64 m.kind) ∧ w'.cell? ⟨w.heap.size, 1, none⟩ = some (.int .i64 m.src) ∧ w'.cell? ⟨w.heap.size, 2, none⟩ = some (.int .i64 m.dst) ∧ w'.cell? ⟨w.heap.size, 3, none⟩ = some (.int .i64 m.epoch) ∧ w'.cell? ⟨w.heap.size, 4, none⟩ = some (.int .i64 m.seq) ∧ w'.cell? ⟨w.heap.size, 5, none⟩ = some (.int .i64 m.off) ∧ w'.cell? ⟨w.heap.size, 6, none⟩ = some (.int .i64 m.len) ∧ w'.cell? ⟨w.heap.size, 7, none⟩ = some (.string m.data)) (first | exact hz0 | exact HS.out _ (by first | exact g | exact g.drew | exact g.alloc g.size _ | exact (g.alloc g.size _).drew | exact g.drew.alloc g.drew.size _))
            ((first
              | (go_at_call 12
                 refine (HLst.out _ ?_).mono ?_
                 · first | exact g | exact g.drew | exact g.alloc g.size _ | exact (g.alloc g.size _).drew | exact g.drew.alloc g.drew.size _
                 rintro e wA ⟨vA, rfl, rA, g, kp⟩)
              | (go_at_call 21
                 refine (HCnt.out _ _ ?_ ?_).mono ?_
                 · first | exact g | exact g.drew | exact g.alloc g.size _ | exact (g.alloc g.size _).drew | exact g.drew.alloc g.drew.size _
                 · exact rA
                 rintro e wB ⟨rfl, g, kp⟩)))
          have HR := Lib.hid (Hall.out _ _ (HP2.out.quiet g)).2.2
          clear hz0
          go_wp2_with fail
          go_roundg (l.length - (k + 1))
          case measure => omega
          case rel => exact ⟨k + 1, L2, by omega, rfl, by go_num, rfl, HR.out, hg3⟩
    · have HP := Lib.hid hp
      clear hp hg Hst Hf Hbx
      go_wp2_with fail
      refine (bnew_any (w := wr)).mono ?_
      rintro e w6 ⟨rfl, hb6, hbe6⟩
      have hnt := newtake_any _ hb6
      unfold Ms.val at hnt
      go_wp2_with fail
      refine hnt.mono ?_
      rintro e w7 ⟨rfl, hT7⟩
      have hp7 := HP.out.quiet (newtake_below hbe6 hT7)
      have HQ := Lib.hid (hp7.alloc (.cells Ms.zero.cells.toArray 23)).below
      clear hnt hT7 hb6 hbe6 hp7 HP
      go_wp2_with fail
      go_ret
      exact ⟨rfl, HQ.out⟩
end Go.Proofs.Ytibpkdaiaoccjaa
