/- TopAgrees: its walk. -/
import Derived.Test.YtfjfkmoofmncnaaDoorQl
import Derived.Test.YtfjfkmoofmncnaaDoorAgA
import Derived.Test.YtfjfkmoofmncnaaDoorRu
import Derived.Test.YtfjfkmoofmncnaaDoorEc
import Derived.Deep.RegionHeld3
import Derived.Deep.CutBlock
import Derived.Deep.DeepCutAuto
namespace Go.Proofs.YtfjfkmoofmncnaaDoor
open Go.RowKit
section
variable {w : World}
set_option maxRecDepth 100000 in
set_option maxHeartbeats 8000000 in
theorem agrees_any (hW : Whole w) (hK : Kinds w) {v0 v1 v2 : Value} {l : List CI} {ls ns : List Nat} (h0 : ArgRow w v0 9 (l.map CI.cells)) (hf : ∀ m ∈ l, m.wide) (h1 : ArgRow w v1 1 (ls.map (ucell .u64))) (hb1 : ∀ n ∈ ls, n < 18446744073709551616) (h2 : ArgRow w v2 1 (ns.map (ucell .u8))) (hb2 : ∀ n ∈ ns, n < 256) :
    Calls Tryd.prog 3 #[v0, v1, v2] w fun e w' => e = .returned (.bool true) ∧ Below w.heap.size w w' := by
  have h2s : 2 ≤ w.heap.size := hW.lt
  obtain ⟨base0, cap0, rfl, hm0⟩ := h0.aslice
  obtain ⟨base1, cap1, rfl, hm1⟩ := h1.aslice
  obtain ⟨base2, cap2, rfl, hm2⟩ := h2.aslice
  unfold maxLen at hm0 hm1 hm2
  have HA0 := Lib.hid (fun wr (hb : Below w.heap.size w wr) k s (hk : l[k]? = some s) => (h0.below hb).aat (k := k) (s := s) hk)
  have HA1 := Lib.hid (fun wr (hb : Below w.heap.size w wr) k s (hk : ls[k]? = some s) => (h1.below hb).oat (i := k) (s := s) hk)
  have HA2 := Lib.hid (fun wr (hb : Below w.heap.size w wr) k s (hk : ns[k]? = some s) => (h2.below hb).oat (i := k) (s := s) hk)
  have HWH := Lib.hid (fun wr (hb : Below w.heap.size w wr) => hW.keep (hb.block _ hW.lt))
  have HKI := Lib.hid (fun wr (hb : Below w.heap.size w wr) => hK.keep (hb.block _ hK.lt))
  have H2S := Lib.hid (fun wr (hb : Below w.heap.size w wr) => Nat.le_trans h2s hb.size)
  have HF := Lib.hid hf
  have HB1 := Lib.hid hb1
  have HB2 := Lib.hid hb2
  by_cases hlen : (20 : Int) < (l.length : Int)
  · have e1 : decide ((20 : Int) < (l.length : Int)) = true := by simpa using hlen
    have hgn := gnew_any hW h2s
    clear hW hK h0 hf h1 hb1 h2 hb2 h2s
    go_enter Tryd.func3, Tryd.ntmps3
    go_wp2_with fail
    refine hgn.mono ?_
    rintro e w1 ⟨b, tb, kb, mb, rfl, -, hbw, -, -⟩
    have hqn := qnew_any (w := w1) (G := GC)
    have HBW := Lib.hid hbw
    clear hgn hbw
    go_wp2_with fail
    refine hqn.mono ?_
    rintro e w2 ⟨gb, rfl, hq, hbw⟩
    have hql := hq.len
    have HBW2 := Lib.hid (HBW.out.trans (hbw.mono HBW.out.size))
    clear hqn hbw hq HBW
    go_wp2_with fail
    refine hql.mono ?_
    rintro e w3 ⟨rfl, rfl⟩
    go_wp2_with fail
    go_ret
    exact ⟨rfl, HBW2.out⟩
  have e1 : decide ((20 : Int) < (l.length : Int)) = false := by simpa using hlen
  have hqn := qnew_any (w := w) (G := GC)
  clear hW hK h0 hf h1 hb1 h2 hb2 h2s
  go_enter Tryd.func3, Tryd.ntmps3
  go_wp2_with fail
  refine hqn.mono ?_
  rintro e w1 ⟨gb, rfl, hq, hbw⟩
  have HQ0 := Lib.hid hq
  have HB0 := Lib.hid hbw
  clear hqn hq hbw e1
  go_wp2_with fail
  go_loopw [8, 9, 10] (fun c _ _ wr => ∃ i : Nat, c = .int .i64 (i : Int) ∧ i ≤ 20 ∧ i ≤ l.length ∧ Below w.heap.size w wr ∧ QS GC w.heap.size i gb wr) (fun c _ _ _ => 21 - (intOf c).toNat)
  case atStart => exact ⟨0, rfl, by omega, by omega, HB0.out, HQ0.out⟩
  case round =>
    clear HQ0 HB0
    obtain ⟨i, rfl, hi, hil, hbw, hq⟩ := hrel
    obtain ⟨T, hT⟩ : ∃ T, T = (decide (i < l.length) && (decide (i < ls.length) && decide (i < ns.length))) := ⟨_, rfl⟩
    have HT := Lib.hid hT
    have HBW := Lib.hid hbw
    have HQ := Lib.hid hq
    clear hT hbw hq
    go_upto_region 5 with (fail)
    go_cut [45] from 30 to 45 (fun s45 wx => s45 = .bool T ∧ wr = wx)
    case first =>
      have hcs : (decide (i < l.length) = false ∧ T = false) ∨ (decide (i < l.length) = true ∧ decide (i < ls.length) = false ∧ T = false) ∨ (decide (i < l.length) = true ∧ decide (i < ls.length) = true ∧ decide (i < ns.length) = false ∧ T = false) ∨ (decide (i < l.length) = true ∧ decide (i < ls.length) = true ∧ decide (i < ns.length) = true ∧ T = true) := by
        rw [HT.out]
        cases decide (i < l.length) <;> cases decide (i < ls.length) <;> cases decide (i < ns.length) <;> simp
      rcases hcs with ⟨t1, tt⟩ | ⟨t1, t2, tt⟩ | ⟨t1, t2, t3, tt⟩ | ⟨t1, t2, t3, tt⟩
      all_goals
        have TT := Lib.hid tt
        clear tt
        go_wp2_with fail
        go_meet
        exact ⟨by rw [TT.out], rfl⟩
    case rest =>
      obtain ⟨rfl, rfl⟩ := hcut
      cases T with
      | true =>
        have hall : i < l.length ∧ i < ls.length ∧ i < ns.length := by simpa using HT.out.symm
        clear HT
        obtain ⟨i0, i1, i2⟩ := hall
        obtain ⟨m, hmk⟩ : ∃ m, l[i]? = some m := ⟨_, List.getElem?_eq_getElem i0⟩
        obtain ⟨lo, hlo⟩ : ∃ m, ls[i]? = some m := ⟨_, List.getElem?_eq_getElem i1⟩
        obtain ⟨no, hno⟩ : ∃ m, ns[i]? = some m := ⟨_, List.getElem?_eq_getElem i2⟩
        have hmf := HF.out m (List.mem_of_getElem? hmk)
        have hnb := HB2.out no (List.mem_of_getElem? hno)
        obtain ⟨b0, off0, cap', hv, -, hc⟩ := HA0.out wr HBW.out i m hmk
        simp only [Value.slice.injEq, true_and] at hv
        obtain ⟨rfl, rfl⟩ := hv
        have q0 := hc 0 _ rfl
        rw [Nat.add_zero] at q0
        have q1 := hc 1 _ rfl
        have q2 := hc 2 _ rfl
        have q3 := hc 3 _ rfl
        have q4 := hc 4 _ rfl
        have q5 := hc 5 _ rfl
        have q6 := hc 6 _ rfl
        have q7 := hc 7 _ rfl
        have q8 := hc 8 _ rfl
        have hen := gencode_any (w := wr) m hmf
        unfold CI.val at hen
        clear hc hmk
        go_wp2_with fail
        refine hen.mono ?_
        rintro e w2 ⟨hb2, he⟩
        have HBW2 := Lib.hid (HBW.out.trans (hb2.mono HBW.out.size))
        have HQ2 := Lib.hid (HQ.out.below hb2)
        clear hen HBW HQ hb2 q0 q1 q2 q3 q4 q5 q6 q7 q8
        rcases he with rfl | ⟨c, hcf, rfl⟩
        · clear hlo hno hnb
          go_wp2_with fail
          go_roundw
          case rel => exact ⟨i + 1, by go_num, by omega, by omega, HBW2.out, HQ2.out.up⟩
          case measure => simp [intOf]; omega
        · have hbd : Below w.heap.size w w2.drew := HBW2.out.drew
          have hqd : QS GC w.heap.size i gb w2.drew := HQ2.out.below (Below.refl _ _).drew
          have hp := hqd.propose hbd.size (by omega) (who := no % 3) (Nat.mod_lt _ (by decide)) ⟨c, hcf, rfl⟩ (lo : Int)
          obtain ⟨b1, off1, cap1', hv1, -, x1⟩ := HA1.out w2 HBW2.out i lo hlo
          obtain ⟨b2, off2, cap2', hv2, -, x2⟩ := HA2.out w2 HBW2.out i no hno
          simp only [Value.slice.injEq, true_and] at hv1 hv2
          obtain ⟨rfl, rfl⟩ := hv1
          obtain ⟨rfl, rfl⟩ := hv2
          have HBD := Lib.hid hbd
          clear HQ2 HBW2 hbd hqd hlo hno hcf hmf
          go_upto_region 9 with (fail)
          refine wp_region_still_tail 12 (by kernel_rfl) (by kernel_rfl) ?_
          simp only [List.take_succ_cons, List.take_zero, List.drop_succ_cons, List.drop_zero]
          iterate 12 still_step
          refine wpStill_nil ?_
          go_wp2_with fail
          rw [show ((no % 3 : Nat) : Int) = (no : Int) % 3 by omega] at hp
          refine hp.mono ?_
          rintro e w3 ⟨⟨pv, rfl⟩, hb3, hq3⟩
          have HB3 := Lib.hid (HBD.out.trans hb3)
          have HQ3 := Lib.hid hq3
          clear hp hb3 hq3 HBD x1 x2
          go_wp2_with fail
          go_roundw
          case rel => exact ⟨i + 1, by go_num, by omega, by omega, HB3.out, HQ3.out⟩
          case measure => simp [intOf]; omega
      | false =>
        have HL0 := Lib.hid (HQ.out.lq hi)
        clear HT HQ hil
        go_wp2_with fail
        go_loopw [11, 12] (fun c _ wr => ∃ n : Nat, c = .int .i64 (n : Int) ∧ n ≤ 3 ∧ Below w.heap.size w wr ∧ LQ w.heap.size (3 * n) gb wr) (fun c _ _ => 4 - (intOf c).toNat)
        case atStart => exact ⟨0, rfl, by omega, HBW.out, HL0.out⟩
        case round =>
          clear HL0 HBW
          obtain ⟨n, rfl, hn, hbw, hl⟩ := hrel
          rcases (by omega : n = 3 ∨ n < 3) with hn3 | hn3
          · have e2 : decide ((n : Int) < 3) = false := by rw [hn3]; rfl
            have HL : Hid (LQ w.heap.size 9 gb wr) := Lib.hid (by rw [hn3] at hl; exact hl)
            clear hl hn hn3
            obtain ⟨cs, hcf, hcl, q, X, I, f, N, s, rfl, hq, hlog⟩ := HL.out.logs
            have hlogs : ∀ W, IsQ W q X I f N s → ∀ j : Nat, j < 3 → Calls Tryd.prog 11 #[.pointer (some ⟨q.gb, 0, none⟩), .int .i64 (j : Int)] W fun e w' => ∃ v, e = .returned v ∧ w'.ownsRow W.heap.size 9 1 v (texts cs).length (srows (texts cs)) ∧ Below W.heap.size W w' := fun W h j hj => by
              have := qlog_any h hj (by rw [hlog j hj, texts, List.length_map]; exact hcl)
              rw [hlog j hj] at this
              exact this
            have HCF := Lib.hid hcf
            have HLG := Lib.hid hlogs
            have HOK := Lib.hid (GS.Ok.run cs)
            have HQ0 := Lib.hid hq
            have HBW0 := Lib.hid hbw
            have c1 : Calls Tryd.prog 11 #[.pointer (some ⟨q.gb, 0, none⟩), .int .i64 0] wr _ := HLG.out wr hq 0 (by decide)
            clear HL hcf hlogs hq hlog hbw HF HB1 HB2 HA0 HA1 HA2
            go_wp2_with fail
            refine c1.mono ?_
            rintro e w1 ⟨v1, rfl, ho, hb⟩
            have HBW1 := Lib.hid (HBW0.out.trans (hb.mono HBW0.out.size))
            have HQ1 := Lib.hid (HQ0.out.below hb)
            have c2 := replay_any (HWH.out _ HBW1.out) (HKI.out _ HBW1.out) (H2S.out _ HBW1.out) cs hcl HCF.out ho
            clear c1 hb HBW0 HQ0
            go_wp2_with fail
            refine c2.mono ?_
            rintro e w2 ⟨hb, b1, tb1, kb1, mb1, wv1, n1, rfl, hs1, -⟩
            have HBW2 := Lib.hid (HBW1.out.trans (hb.mono HBW1.out.size))
            have HQ2 := Lib.hid (HQ1.out.below hb)
            have HS1 := Lib.hid hs1
            have c3 : Calls Tryd.prog 11 #[.pointer (some ⟨q.gb, 0, none⟩), .int .i64 1] w2 _ := HLG.out w2 HQ2.out 1 (by decide)
            clear c2 hb HBW1 HQ1 hs1 ho
            go_wp2_with fail
            refine c3.mono ?_
            rintro e w3 ⟨v3, rfl, ho, hb⟩
            have HBW3 := Lib.hid (HBW2.out.trans (hb.mono HBW2.out.size))
            have HQ3 := Lib.hid (HQ2.out.below hb)
            have HS1' := Lib.hid (HS1.out.below hb)
            have c4 := replay_any (HWH.out _ HBW3.out) (HKI.out _ HBW3.out) (H2S.out _ HBW3.out) cs hcl HCF.out ho
            clear c3 hb HBW2 HQ2 HS1
            go_wp2_with fail
            refine c4.mono ?_
            rintro e w4 ⟨hb, b2, tb2, kb2, mb2, wv2, n2, rfl, hs2, -⟩
            have HBW4 := Lib.hid (HBW3.out.trans (hb.mono HBW3.out.size))
            have HQ4 := Lib.hid (HQ3.out.below hb)
            have HS1 := Lib.hid (HS1'.out.below hb)
            have HS2 := Lib.hid hs2
            have c5 : Calls Tryd.prog 11 #[.pointer (some ⟨q.gb, 0, none⟩), .int .i64 2] w4 _ := HLG.out w4 HQ4.out 2 (by decide)
            clear c4 hb HBW3 HQ3 hs2 ho HS1'
            go_wp2_with fail
            refine c5.mono ?_
            rintro e w5 ⟨v5, rfl, ho, hb⟩
            have HBW5 := Lib.hid (HBW4.out.trans (hb.mono HBW4.out.size))
            have HQ5 := Lib.hid (HQ4.out.below hb)
            have HS1' := Lib.hid (HS1.out.below hb)
            have HS2' := Lib.hid (HS2.out.below hb)
            have c6 := rreplay_any (w := w5) cs hcl HCF.out ho
            clear c5 hb HBW4 HQ4 HS1 HS2
            go_wp2_with fail
            refine c6.mono ?_
            rintro e w6 ⟨hb, p, rfl, hs3⟩
            have HBW6 := Lib.hid (HBW5.out.trans (hb.mono HBW5.out.size))
            have HQ6 := Lib.hid (HQ5.out.below hb)
            have HS1 := Lib.hid (HS1'.out.below hb)
            have HS2 := Lib.hid (HS2'.out.below hb)
            have HS3 := Lib.hid hs3
            have c7 : Calls Tryd.prog 11 #[.pointer (some ⟨q.gb, 0, none⟩), .int .i64 0] w6 _ := HLG.out w6 HQ6.out 0 (by decide)
            clear c6 hb HBW5 HQ5 hs3 ho HS1' HS2'
            go_wp2_with fail
            refine c7.mono ?_
            rintro e w7 ⟨v7, rfl, ho, hb⟩
            obtain ⟨a7, cap7, rfl⟩ := row_lens ho
            have HBW7 := Lib.hid (HBW6.out.trans (hb.mono HBW6.out.size))
            have HQ7 := Lib.hid (HQ6.out.below hb)
            have HS1' := Lib.hid (HS1.out.below hb)
            have HS2' := Lib.hid (HS2.out.below hb)
            have HS3' := Lib.hid (HS3.out.below hb)
            have c8 : Calls Tryd.prog 11 #[.pointer (some ⟨q.gb, 0, none⟩), .int .i64 2] w7 _ := HLG.out w7 HQ7.out 2 (by decide)
            clear c7 hb HBW6 HQ6 ho HS1 HS2 HS3
            go_wp2_with fail
            refine c8.mono ?_
            rintro e w8 ⟨v8, rfl, ho, hb⟩
            obtain ⟨a8, cap8, rfl⟩ := row_lens ho
            have HBW8 := Lib.hid (HBW7.out.trans (hb.mono HBW7.out.size))
            have HQ8 := Lib.hid (HQ7.out.below hb)
            have HS1 := Lib.hid (HS1'.out.below hb)
            have HS2 := Lib.hid (HS2'.out.below hb)
            have HS3 := Lib.hid (HS3'.out.below hb)
            have c9 := holds_any HS1.out HOK.out
            clear c8 hb HBW7 HQ7 ho HS1' HS2' HS3'
            go_wp2_with fail
            refine c9.mono ?_
            rintro e w9 ⟨v9, rfl, ho9, hb⟩
            obtain ⟨a9, cap9, rfl⟩ := row_lens ho9
            have HBW9 := Lib.hid (HBW8.out.trans (hb.mono HBW8.out.size))
            have HQ9 := Lib.hid (HQ8.out.below hb)
            have HS1' := Lib.hid (HS1.out.below hb)
            have HS2' := Lib.hid (HS2.out.below hb)
            have HS3' := Lib.hid (HS3.out.below hb)
            have HX := Lib.hid ho9
            have c10 := holds_any HS2'.out HOK.out
            clear c9 hb HBW8 HQ8 ho9 HS1 HS2 HS3
            go_wp2_with fail
            refine c10.mono ?_
            rintro e w10 ⟨v10, rfl, ho10, hb⟩
            obtain ⟨a10, cap10, rfl⟩ := row_lens ho10
            have HBW10 := Lib.hid (HBW9.out.trans (hb.mono HBW9.out.size))
            have HQ10 := Lib.hid (HQ9.out.below hb)
            have HS1 := Lib.hid (HS1'.out.below hb)
            have HS3 := Lib.hid (HS3'.out.below hb)
            have HX' := Lib.hid (ownsRow_keep HX.out fun k hk => hb.block k (HX.out.lt k hk).2)
            have HY := Lib.hid ho10
            clear c10 hb HBW9 HQ9 ho10 HS1' HS2' HS3' HX
            go_upto_region 24 with (fail)
            obtain ⟨ta, tc, htv⟩ := row_lens HS3.out.tab.row
            obtain ⟨xa, xc, hwv⟩ := row_lens HS3.out.row
            have hS : ∀ W, Below w10.heap.size w10 W → W.cell? ⟨p.b, 0, none⟩ = some (.pointer (some ⟨p.tb, 0, none⟩)) ∧ W.cell? ⟨p.tb, 0, none⟩ = some (.slice ta (holdsOf (GS.run cs).R).length tc) ∧ W.cell? ⟨p.b, 2, none⟩ = some (.slice xa (GS.run cs).wait.length xc) := fun W hb => by
              have h := HS3.out.below hb
              refine ⟨h.c0, ?_, ?_⟩
              · rw [← htv]
                exact h.tab.c0
              · rw [← hwv]
                exact h.c2
            have hs0 := hS w10.drew (Below.refl _ _).drew
            have HSF := Lib.hid hS
            have HTV := Lib.hid htv
            have cw := waits_any (w := w10.drew) (HS1.out.below (Below.refl _ _).drew) HOK.out
            clear hS htv hwv
            go_region_held3 (fun w' => w'.cell? ⟨p.b, 0, none⟩ = some (.pointer (some ⟨p.tb, 0, none⟩)) ∧ w'.cell? ⟨p.tb, 0, none⟩ = some (.slice ta (holdsOf (GS.run cs).R).length tc) ∧ w'.cell? ⟨p.b, 2, none⟩ = some (.slice xa (GS.run cs).wait.length xc)) (first | exact hs0 | exact hs2) ((go_at_call 14; refine cw.mono ?_; clear cw; rintro e w11 ⟨v11, rfl, ho, hb⟩; obtain ⟨a11, cap11, rfl⟩ := row_lens ho; have hb2 := (Below.refl w10.heap.size w10).drew.trans hb; have hs2 := HSF.out w11 hb2; have HB11 := Lib.hid hb2; clear ho hb hb2))
            obtain ⟨LH, hLH⟩ : ∃ LH, LH = holdsOf (GS.run cs).R := ⟨_, rfl⟩
            have hlen2 : LH.length ≤ 2048 := by rw [hLH]; exact someOf_len _ 0 256 _ 8
            have hr := HS3.out.tab.row
            rw [HTV.out, ← hLH] at hr
            have hx := HX'.out
            have hy := HY.out
            rw [← hLH] at hx hy
            rw [← hLH]
            rw [← hLH] at hs2
            have hAll : ∀ W, Below w11.heap.size w11 W → Below w.heap.size w W ∧ IsQ W q X I f N s ∧ (W.cell? ⟨p.b, 0, none⟩ = some (.pointer (some ⟨p.tb, 0, none⟩)) ∧ W.cell? ⟨p.tb, 0, none⟩ = some (.slice ta LH.length tc)) ∧ W.ownsRow 0 57 4 (.slice a9 LH.length cap9) LH.length (hrows LH) ∧ W.ownsRow 0 57 4 (.slice a10 LH.length cap10) LH.length (hrows LH) ∧ W.ownsRow 0 57 4 (.slice ta LH.length tc) LH.length (hrows LH) := fun W hb => by
              have hb2 := HB11.out.trans (hb.mono HB11.out.size)
              have h3 := HSF.out W hb2
              rw [← hLH] at h3
              exact ⟨HBW10.out.trans (hb2.mono HBW10.out.size), HQ10.out.below hb2, ⟨h3.1, h3.2.1⟩, ownsRow_base (ownsRow_keep hx fun k hk => hb2.block k (hx.lt k hk).2) fun _ _ => Nat.zero_le _, ownsRow_base (ownsRow_keep hy fun k hk => hb2.block k (hy.lt k hk).2) fun _ _ => Nat.zero_le _, ownsRow_keep hr fun k hk => hb2.block k (hr.lt k hk).2⟩
            have HALL := Lib.hid hAll
            clear hAll hx hy hr hLH hs2 HB11 HTV HSF hs0 HY HX' HS3 HS1 HQ10 HBW10 HOK HLG HCF hcl H2S HKI HWH e2
            go_wp2_with fail
            go_loopw [18] (fun c wr => ∃ j : Nat, c = .int .i64 (j : Int) ∧ j ≤ LH.length ∧ Below w11.heap.size w11 wr) (fun c _ => LH.length + 1 - (intOf c).toNat)
            case atStart => exact ⟨0, rfl, by omega, Below.refl _ _⟩
            case round =>
              obtain ⟨j, rfl, hj, hbj⟩ := hrel
              obtain ⟨g1, g2, ⟨g3, g4⟩, g5, g6, g7⟩ := HALL.out wr hbj
              have G1 := Lib.hid g1
              by_cases hjl : j < LH.length
              · have e4 : decide (j < LH.length) = true := by simpa using hjl
                obtain ⟨h, hjh⟩ : ∃ h, LH[j]? = some h := ⟨_, List.getElem?_eq_getElem hjl⟩
                obtain ⟨u1, cc1, hv, hc1⟩ := hrowcell g5 hjh
                simp only [Value.slice.injEq, true_and] at hv
                obtain ⟨rfl, rfl⟩ := hv
                obtain ⟨u2, cc2, hv, hc2⟩ := hrowcell g6 hjh
                simp only [Value.slice.injEq, true_and] at hv
                obtain ⟨rfl, rfl⟩ := hv
                obtain ⟨u3, cc3, hv, hc3⟩ := hrowcell g7 hjh
                simp only [Value.slice.injEq, true_and] at hv
                obtain ⟨rfl, rfl⟩ := hv
                have p0 := hc1 0 _ rfl
                have p1 := hc1 1 _ rfl
                have p2 := hc1 2 _ rfl
                have p3 := hc1 3 _ rfl
                have r0 := hc2 0 _ rfl
                have r1 := hc2 1 _ rfl
                have r2 := hc2 2 _ rfl
                have r3 := hc2 3 _ rfl
                have s0 := hc3 0 _ rfl
                have s1 := hc3 1 _ rfl
                have s2 := hc3 2 _ rfl
                have s3 := hc3 3 _ rfl
                rw [Nat.add_zero] at p0 r0 s0
                have HBJ := Lib.hid hbj
                clear hc1 hc2 hc3 g1 g2 g5 g6 g7 hjh hbj
                go_upto_region 29 with (fail)
                go_quiet (fail)
                go_wp2_with fail
                go_roundw
                case rel => exact ⟨j + 1, by go_num, by omega, HBJ.out.trans ⟨rfl, rfl, rfl, Nat.le_refl _, fun _ _ => rfl⟩⟩
                case measure => simp [intOf]; omega
              · have e4 : decide (j < LH.length) = false := by simpa using hjl
                have ql := qlen_any g2.c0
                clear g1 g2 g3 g4 g5 g6 g7
                go_wp2_with fail
                refine ql.mono ?_
                rintro e wz ⟨rfl, rfl⟩
                go_wp2_with fail
                go_ret
                exact ⟨rfl, G1.out⟩
          · have e2 : decide ((n : Int) < 3) = true := by simp; omega
            have HL := Lib.hid hl
            have HBW := Lib.hid hbw
            clear hl hbw hn
            go_wp2_with fail
            go_loopw [12] (fun c wr => ∃ o : Nat, c = .int .i64 (o : Int) ∧ o ≤ 3 ∧ Below w.heap.size w wr ∧ LQ w.heap.size (3 * n + o) gb wr) (fun c _ => 4 - (intOf c).toNat)
            case atStart => exact ⟨0, rfl, by omega, HBW.out, HL.out⟩
            case round =>
              clear HL HBW
              obtain ⟨o, rfl, ho, hbw, hl⟩ := hrel
              rcases (by omega : o = 3 ∨ o < 3) with ho3 | ho3
              · have e3 : decide ((o : Int) < 3) = false := by rw [ho3]; rfl
                have HL : Hid (LQ w.heap.size (3 * (n + 1)) gb wr) := Lib.hid (by rw [ho3] at hl; exact hl)
                have HBW := Lib.hid hbw
                clear hl hbw ho ho3
                go_wp2_with fail
                go_roundw
                case rel => exact ⟨n + 1, by go_num, by omega, HBW.out, HL.out⟩
                case measure => simp [intOf]; omega
              · have e3 : decide ((o : Int) < 3) = true := by simp; omega
                have hle := hl.learn hbw.size hn3 ho3 rfl
                have HBW := Lib.hid hbw
                clear hl hbw ho
                go_wp2_with fail
                refine hle.mono ?_
                rintro e w2 ⟨⟨pv, rfl⟩, hb2, hl2⟩
                have HB2' := Lib.hid (HBW.out.trans hb2)
                have HL2 := Lib.hid hl2
                clear hle HBW hb2 hl2
                go_wp2_with fail
                go_roundw
                case rel => exact ⟨o + 1, by go_num, by omega, HB2'.out, HL2.out⟩
                case measure => simp [intOf]; omega
end
end Go.Proofs.YtfjfkmoofmncnaaDoor
