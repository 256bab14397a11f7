/- PlateLasts: its walk. Printed by gen_lasts.py. -/
import Derived.Test.YtahmnehfadiegaaPF
import Derived.Test.YtahmnehfadiegaaLastsPlain
import Derived.Test.YtahmnehfadiegaaScript
namespace Go.Proofs.Ytahmnehfadiegaa
open Go.RowKit
theorem Try.infoBool : (Try.prog.info? 4).map (fun i => (i.zero, i.size, i.bytes)) = some (some (.bool false), 1, 1) := by kernel_rfl
set_option maxRecDepth 100000 in
set_option maxHeartbeats 4000000 in
theorem lasts_any (keep : Nat) (hkeep : keep < 18446744073709551616) {v v2 : Value} {l l2 : List Stp} {w : World} (ha : ArgRow w v 4 (l.map Stp.cells)) (hfit : ∀ o ∈ l, o.fits) (ha2 : ArgRow w v2 4 (l2.map Stp.cells)) (hfit2 : ∀ o ∈ l2, o.fits) :
    Calls Try.prog 6 #[v, v2, .int .u64 (keep : Int)] w fun e w' => e = .returned (.bool true) ∧ Below w.heap.size w w' := by
  have hh := heavy_any ha hfit
  have hh2 := heavy_any ha2 hfit2
  cases hhv : hvB l
  · cases hhv2 : hvB l2
    · have hlen := hvB_len hhv
      have hlen2 := hvB_len hhv2
      rw [hhv] at hh
      rw [hhv2] at hh2
      clear hhv hhv2
      obtain ⟨i0, hi0, hz0, hz1, hz2⟩ := info_parts Try.infoBool
      have Hi := Lib.hid hi0
      have Hz := Lib.hid hz0
      have Hz1 := Lib.hid hz1
      have Hz2 := Lib.hid (show i0.bytes * 9 ≤ 281474976710656 by rw [hz2]; decide)
      clear hi0 hz0 hz1 hz2
      obtain ⟨base, cap, rfl, hm, hrow⟩ := ha
      obtain ⟨base2, cap2, rfl, hm2, hrow2⟩ := ha2
      rw [List.length_map] at hh hh2 ⊢
      rw [List.length_map]
      clear hm hm2
      go_enter Try.func6, Try.ntmps6
      go_wp2_with fail
      refine hh.mono ?_
      rintro e w1 ⟨rfl, rfl⟩
      clear hh
      go_wp2_with fail
      refine hh2.mono ?_
      rintro e w1 ⟨rfl, rfl⟩
      clear hh2
      go_wp2_with fail
      refine (P1.made _).mono ?_
      rintro e w1 ⟨rfl, hp1⟩
      go_wp2_with fail
      refine (P2.made hp1 _).mono ?_
      rintro e w2 ⟨rfl, hp⟩
      clear hp1
      have hlv : (PS.new (sizeOfN 9)).live := PS.live_new _ (by decide) (by decide)
      have hsz : (PS.new (sizeOfN 9)).size = 9 := rfl
      have hc0 : (PS.new (sizeOfN 9)).calls ≤ 0 := Nat.le_refl _
      have hw0 : (PS.new (sizeOfN 9)).wait.length ≤ 0 := Nat.le_refl _
      generalize PS.new (sizeOfN 9) = st at hp hlv hsz hc0 hw0
      generalize w1.heap.size = c at hp ⊢
      generalize hb : w.heap.size = b at hp ⊢
      have HB := Lib.hid hb
      clear hb
      have Hsz := Lib.hid hsz
      clear hsz
      go_wp2_with fail
      go_loopw [9] (fun i wr => ∃ (k : Nat) (st : PS) (wk : World), k ≤ l.length ∧ i = .int .i64 (k : Int) ∧ P2 ⟨b, w, fun _ => False, wk⟩ wr b st c st ∧ st.live ∧ Hid (st.size = 9) ∧ st.calls ≤ k ∧ st.wait.length ≤ k)
        (fun i _ => l.length - (intOf i).toNat)
      case atStart => exact ⟨0, st, w1, Nat.zero_le _, rfl, hp, hlv, Hsz, hc0, hw0⟩
      case round =>
        clear hp hc0 hw0 hlv Hsz
        obtain ⟨k, st, wk, hk, rfl, hp, hlv, Hsz, hcal, hwt⟩ := hrel
        by_cases hlt : k < l.length
        · obtain ⟨o, ho⟩ : ∃ o, l[k]? = some o := ⟨_, List.getElem?_eq_getElem hlt⟩
          obtain ⟨g, off, rfl, hgl, hc⟩ := hrow k o.cells (by rw [List.getElem?_map, ho]; rfl)
          obtain ⟨hf0, hf1, hf2, hf3⟩ := hfit o (List.mem_of_getElem? ho)
          clear ho
          obtain ⟨kd, oi, os, okeep⟩ := o
          have hcl : ∀ w' st' sr', P2 ⟨b, w, fun _ => False, wk⟩ w' b st' c sr' →
              w'.cell? ⟨g, off + k * 4, none⟩ = some (.int .i64 kd) ∧ w'.cell? ⟨g, off + k * 4 + 1, none⟩ = some (.int .i64 oi) ∧ w'.cell? ⟨g, off + k * 4 + 2, none⟩ = some (.string os) := by
            intro w' st' sr' h
            have hgb : ∀ q, w'.cell? ⟨g, q, none⟩ = w.cell? ⟨g, q, none⟩ := fun q => World.cell?_of_block (a := ⟨g, q, none⟩) (h.below.block g (by rw [← HB.out]; exact hgl))
            exact ⟨(hgb _).trans (hc 0 _ rfl), (hgb _).trans (hc 1 _ rfl), (hgb _).trans (hc 2 _ rfl)⟩
          have Hcells := Lib.hid hcl
          clear hc hcl
          rcases (show kd = 0 ∨ kd ≠ 0 by omega) with rfl | h0
          · have b1 : (st.writeS oi os.data.toList).calls ≤ k + 1 := Nat.le_trans (PS.calls_writeS _ _ _) (by omega)
            have b2 : (st.writeS oi os.data.toList).wait.length ≤ k + 1 := Nat.le_trans (PS.wait_writeS _ _ _) (by omega)
            have hl2 := hlv.write oi os.data.toList
            have hs2 : Hid ((st.writeS oi os.data.toList).size = 9) := (hlv.size_write oi os.data.toList).trans Hsz.out
            have hcw := hp.drew.write (by omega) (by omega) oi os hf2
            have hcr : ∀ w1, P2 ⟨b, w, fun _ => False, wk⟩ w1 b (st.writeS oi os.data.toList) c st → _ := fun w1 h => h.rwrite (by omega) (by omega) oi os hf2
            generalize st.writeE oi os.data.toList = ee at hcw hcr
            generalize st.writeS oi os.data.toList = st2 at hcw hcr b1 b2 hl2 hs2
            have Hcr := Lib.hid hcr
            have B12 := Lib.hid (And.intro b1 b2)
            obtain ⟨d0, d1, d2⟩ := Hcells.out _ _ _ hp.drew
            clear hcr hp b1 b2 hcal hwt
            go_wp2_with fail
            go_region_held3 (fun w' => w'.cell? ⟨g, off + k * 4, none⟩ = some (.int .i64 0) ∧ w'.cell? ⟨g, off + k * 4 + 1, none⟩ = some (.int .i64 oi) ∧ w'.cell? ⟨g, off + k * 4 + 2, none⟩ = some (.string os)) (first | exact ⟨d0, d1, d2⟩ | exact ⟨e0, e1, e2⟩ | exact ⟨f0, f1, f2⟩)
              ((first
                | (go_at_call 11
                   refine hcw.mono ?_
                   rintro e w1 ⟨rfl, hp1⟩
                   obtain ⟨e0, e1, e2⟩ := Hcells.out _ _ _ hp1)
                | (go_at_call 18
                   refine (Hcr.out _ hp1).mono ?_
                   rintro e w2 ⟨rfl, hp2⟩
                   obtain ⟨f0, f1, f2⟩ := Hcells.out _ _ _ hp2)))
            obtain ⟨b1, b2⟩ := B12.out
            clear d0 d1 d2 hcw Hcr e0 e1 e2 f0 f1 f2 hp1 B12
            go_wp2_with fail
            go_roundw
            case rel => exact ⟨k + 1, st2, wk, by omega, by go_num, hp2, hl2, hs2, b1, b2⟩
            case measure => simp [intOf]; omega
          · have k0 : (kd == 0) = false := by simpa using h0
            obtain ⟨d0, -, -⟩ := Hcells.out _ _ _ hp
            have hP := fun n => hp.drewN n
            have HP := Lib.hid hP
            have B12 := Lib.hid (show st.calls ≤ k + 1 ∧ st.wait.length ≤ k + 1 by omega)
            clear hp hcal hwt h0 hP
            go_wp2_with fail
            go_quiet (fail)
            clear d0
            go_wp2_with fail
            go_roundw
            case rel => exact ⟨k + 1, st, wk, by omega, by go_num, HP.out _, hlv, Hsz, B12.out.1, B12.out.2⟩
            case measure => simp [intOf]; omega
        · have b1 : st.syncS.calls ≤ 201 := Nat.le_trans (PS.calls_syncS _) (by omega)
          have hl2 := hlv.sync
          have hs2 : Hid (st.syncS.size = 9) := hlv.size_sync.trans Hsz.out
          have hw2 : Hid (st.syncS.wait = []) := by show _ = _; rw [hlv.syncS]; rfl
          have hsy := hp.sync (by omega) (by omega)
          have hsr : ∀ w1, P2 ⟨b, w, fun _ => False, wk⟩ w1 b st.syncS c st → _ := fun w1 h => h.rsync (by omega) (by omega)
          have Hsr := Lib.hid hsr
          clear hsr hp hcal hwt
          generalize st.syncE = ee at hsy Hsr
          generalize st.syncS = s1 at hsy Hsr b1 hl2 hs2 hw2
          go_wp2_with fail
          refine hsy.mono ?_
          rintro e w3 ⟨rfl, hp⟩
          have hsr := Hsr.out _ hp
          clear hsy Hsr hp
          go_wp2_with fail
          refine hsr.mono ?_
          rintro e w4 ⟨rfl, hp⟩
          clear hsr
          have HP := Lib.hid hp
          clear hp
          go_wp2_with (refine wpList_make_one rfl _ _ 45 rfl 4 i0 _ Try.underlying45 Hi.out Hz.out rfl Hz1.out 9 rfl rfl Hz2.out (by unfold maxLen; decide) ?_)
          have hp : P2 ⟨b, w, fun q => q = w4.heap.size, w4.alloc (.cells (Array.replicate 9 (.bool false)) 4)⟩ (w4.alloc (.cells (Array.replicate 9 (.bool false)) 4)) b s1 c s1 :=
            HP.out.moved (G := fun _ => False) ((Moves.refl _ w4).alloc _) (fun _ h => h.elim) (fun q hq => ⟨by simp [hq], .inr (by show w4.heap.size ≤ q; omega)⟩)
          have Hlt : Hid (∀ q, q < 9 → (w4.alloc (.cells (Array.replicate 9 (.bool false)) 4)).cell? ⟨w4.heap.size, q, none⟩ = some (.bool ((fun _ : Nat => false) q))) := fun q hq => by
            rw [World.cell?_alloc_new, Array.getElem?_replicate, if_pos hq]
          have Hfz : Hid (∀ q, (w4.alloc (.cells (Array.replicate 9 (.bool false)) 4)).frozen? ⟨w4.heap.size, q, none⟩ = false) := fun q => World.frozen?_alloc_new _ _ _ _
          have hlb : b ≤ w4.heap.size := HP.out.hB
          obtain ⟨is1, his⟩ : ∃ x, s1.is = x := ⟨_, rfl⟩
          have His := Lib.hid his
          have Hin : Hid (∀ x ∈ s1.wait, (fun _ : Nat => false) x.1 = true) := fun x hx => by rw [hw2.out] at hx; simp at hx
          have b2 : s1.wait.length ≤ 0 := by rw [hw2.out]; exact Nat.le_refl _
          clear HP his hw2
          generalize w4.alloc (.cells (Array.replicate 9 (.bool false)) 4) = W at hp Hlt Hfz ⊢
          generalize w4.heap.size = lb at hp Hlt Hfz hlb ⊢
          go_loopw [11] (fun i wr => ∃ (k : Nat) (st : PS) (lt : Nat → Bool) (wk : World), k ≤ l2.length ∧ i = .int .i64 (k : Int) ∧ P2 ⟨b, w, fun q => q = lb, wk⟩ wr b st c st ∧ st.live ∧ Hid (st.size = 9) ∧ Hid (st.is = is1) ∧
              Hid (∀ x ∈ st.wait, lt x.1 = true) ∧ Hid (∀ q, q < 9 → wr.cell? ⟨lb, q, none⟩ = some (.bool (lt q))) ∧ Hid (∀ q, wr.frozen? ⟨lb, q, none⟩ = false) ∧ st.calls ≤ 201 + k ∧ st.wait.length ≤ k)
            (fun i _ => l2.length - (intOf i).toNat)
          case atStart => exact ⟨0, s1, fun _ => false, W, Nat.zero_le _, rfl, hp, hl2, hs2, His, Hin, Hlt, Hfz, b1, b2⟩
          case round =>
            clear hp hl2 hs2 His Hin Hlt Hfz b1 b2 hlv Hsz hlt hk
            obtain ⟨k, st, lt, wk, hk, rfl, hp, hlv, Hsz, His, Hin, Hlt, Hfz, hcal, hwt⟩ := hrel
            by_cases hlt : k < l2.length
            · obtain ⟨o, ho⟩ : ∃ o, l2[k]? = some o := ⟨_, List.getElem?_eq_getElem hlt⟩
              obtain ⟨g, off, rfl, hgl, hc⟩ := hrow2 k o.cells (by rw [List.getElem?_map, ho]; rfl)
              obtain ⟨hf0, hf1, hf2, hf3⟩ := hfit2 o (List.mem_of_getElem? ho)
              clear ho
              obtain ⟨kd, oi, os, okeep⟩ := o
              have hcl : ∀ w' st' sr', P2 ⟨b, w, fun q => q = lb, wk⟩ w' b st' c sr' →
                  w'.cell? ⟨g, off + k * 4, none⟩ = some (.int .i64 kd) ∧ w'.cell? ⟨g, off + k * 4 + 1, none⟩ = some (.int .i64 oi) ∧ w'.cell? ⟨g, off + k * 4 + 2, none⟩ = some (.string os) := by
                intro w' st' sr' h
                have hgb : ∀ q, w'.cell? ⟨g, q, none⟩ = w.cell? ⟨g, q, none⟩ := fun q => World.cell?_of_block (a := ⟨g, q, none⟩) (h.below.block g (by rw [← HB.out]; exact hgl))
                exact ⟨(hgb _).trans (hc 0 _ rfl), (hgb _).trans (hc 1 _ rfl), (hgb _).trans (hc 2 _ rfl)⟩
              have Hcells := Lib.hid hcl
              clear hc hcl
              rcases (show kd = 0 ∨ kd ≠ 0 by omega) with rfl | h0
              · have b1 : (st.writeS oi os.data.toList).calls ≤ 201 + (k + 1) := Nat.le_trans (PS.calls_writeS _ _ _) (by omega)
                have b2 : (st.writeS oi os.data.toList).wait.length ≤ k + 1 := Nat.le_trans (PS.wait_writeS _ _ _) (by omega)
                have hl2 := hlv.write oi os.data.toList
                have hs2 : Hid ((st.writeS oi os.data.toList).size = 9) := (hlv.size_write oi os.data.toList).trans Hsz.out
                obtain ⟨his, hwl⟩ := hlv.wait_write oi os.data.toList
                have his2 : Hid ((st.writeS oi os.data.toList).is = is1) := his.trans His.out
                have hin : Hid (st.writeE oi os.data.toList = 0 → 0 ≤ oi ∧ oi < 9) := fun he => by have := hlv.write_in oi os.data.toList he; rw [Hsz.out] at this; exact this
                have hsame : Hid (st.writeE oi os.data.toList ≠ 0 → st.writeS oi os.data.toList = st) := hlv.write_same oi os.data.toList
                have Hwl := Lib.hid hwl
                have hcr := hp.drew.rwrite (by omega) (by omega) oi os hf2
                have hcw : ∀ w1, P2 ⟨b, w, fun q => q = lb, wk⟩ w1 b st c (st.writeS oi os.data.toList) → _ := fun w1 h => h.drew.write (by omega) (by omega) oi os hf2
                clear his hwl
                generalize st.writeE oi os.data.toList = ee at hcr hcw hin hsame Hwl
                generalize hst2 : st.writeS oi os.data.toList = st2 at hcr hcw b1 b2 hl2 hs2 his2 hsame Hwl
                have Hst2 := Lib.hid hst2
                have Hcw := Lib.hid hcw
                have B12 := Lib.hid (And.intro b1 b2)
                have C12 := Lib.hid (And.intro hcal hwt)
                obtain ⟨d0, d1, d2⟩ := Hcells.out _ _ _ hp.drew
                clear hst2 hcw b1 b2 hcal hwt
                go_wp2_with fail
                go_region_held3 (fun w' => w'.cell? ⟨g, off + k * 4, none⟩ = some (.int .i64 0) ∧ w'.cell? ⟨g, off + k * 4 + 1, none⟩ = some (.int .i64 oi) ∧ w'.cell? ⟨g, off + k * 4 + 2, none⟩ = some (.string os)) (first | exact ⟨d0, d1, d2⟩ | exact ⟨e0, e1, e2⟩)
                  ((go_at_call 18
                    refine hcr.mono ?_
                    rintro e w1 ⟨rfl, hp1⟩
                    obtain ⟨e0, e1, e2⟩ := Hcells.out _ _ _ hp1))
                clear d0 d1 d2 hcr
                by_cases hee : ee = 0
                · subst hee
                  obtain ⟨hi0, hi9⟩ := hin.out rfl
                  obtain ⟨on, rfl⟩ := Int.eq_ofNat_of_zero_le hi0
                  have hcw2 := Hcw.out w1 hp1
                  have hon : on < 9 := by omega
                  have hP1 := hp1
                  obtain ⟨d0, d1, d2⟩ := Hcells.out _ _ _ hp1.drew
                  clear hin hsame Hcw hi0 hi9
                  go_wp2_with fail
                  go_region_held3 (fun w' => w'.cell? ⟨g, off + k * 4, none⟩ = some (.int .i64 0) ∧ w'.cell? ⟨g, off + k * 4 + 1, none⟩ = some (.int .i64 (on : Int)) ∧ w'.cell? ⟨g, off + k * 4 + 2, none⟩ = some (.string os)) (first | exact ⟨d0, d1, d2⟩ | exact ⟨e0, e1, e2⟩ | exact ⟨f0, f1, f2⟩)
                    ((go_at_call 11
                      refine hcw2.mono ?_
                      rintro e w2 ⟨rfl, hp2⟩
                      obtain ⟨f0, f1, f2⟩ := Hcells.out _ _ _ hp2))
                  have hkb := (hp2.kept (k := lb) rfl).trans (hp.kept (k := lb) rfl).symm
                  have hcb : ∀ q, w2.cell? ⟨lb, q, none⟩ = wr.cell? ⟨lb, q, none⟩ := fun q => World.cell?_of_block (a := ⟨lb, q, none⟩) hkb
                  have hfb : ∀ q, w2.frozen? ⟨lb, q, none⟩ = false := fun q => (World.frozen?_of_block (a := ⟨lb, q, none⟩) hkb).trans (Hfz.out q)
                  have g1 : w2.cell? ⟨lb, on, none⟩ = some (.bool (lt on)) := (hcb on).trans (Hlt.out on hon)
                  have g2 := hfb on
                  have hp3 : P2 ⟨b, w, fun q => q = lb, w2.setCell ⟨lb, on, none⟩ (.bool true)⟩ (w2.setCell ⟨lb, on, none⟩ (.bool true)) b st2 c st2 :=
                    hp2.moved (G := fun q => q = lb) ((Moves.refl _ w2).setCell _ _ (.inl rfl)) (fun q hq => ⟨hq, by show b ≤ q; rw [hq]; exact hlb⟩) (fun q hq => ⟨by
                      have h8 : lb < w2.heap.size := World.block_lt_of_cell? w2 _ g1
                      have h9 := ((Moves.refl (fun q => q = lb) w2).setCell ⟨lb, on, none⟩ (.bool true) (.inl rfl)).size
                      rw [hq]; exact Nat.lt_of_lt_of_le h8 h9, .inl hq⟩)
                  have Hlt2 : Hid (∀ q, q < 9 → (w2.setCell ⟨lb, on, none⟩ (.bool true)).cell? ⟨lb, q, none⟩ = some (.bool (if q = on then true else lt q))) := fun q hq => by
                    by_cases hqo : q = on
                    · subst hqo; rw [if_pos rfl]; exact World.cell?_setCell_same _ _ _ g1
                    · rw [if_neg hqo, World.cell?_setCell_other _ _ _ _ (by simp <;> exact fun e => absurd e.symm hqo)]; exact (hcb q).trans (Hlt.out q hq)
                  have Hfz2 : Hid (∀ q, (w2.setCell ⟨lb, on, none⟩ (.bool true)).frozen? ⟨lb, q, none⟩ = false) := fun q => by rw [World.frozen?_setCell]; exact hfb q
                  have Hin2 : Hid (∀ x ∈ st2.wait, (if x.1 = on then true else lt x.1) = true) := fun x hx => by
                    rcases Hwl.out x hx with h | h
                    · split
                      · rfl
                      · exact Hin.out x h
                    · rw [if_pos (by omega)]
                  have HP3 := Lib.hid hp3
                  obtain ⟨b1, b2⟩ := B12.out
                  clear d0 d1 d2 e0 e1 e2 hcw2 hp1 hP1 hkb hcb hfb hp3 B12 C12 Hwl Hin Hlt Hfz hp Hst2 f0 f2
                  go_wp2_with fail
                  go_roundw
                  case rel => exact ⟨k + 1, st2, _, _, by omega, by go_num, HP3.out, hl2, hs2, his2, Hin2, Hlt2, Hfz2, b1, b2⟩
                  case measure => simp [intOf]; omega
                · have he1 : (ee == 0) = false := by simpa using hee
                  have hss := hsame.out hee
                  subst hss
                  have hkb := (hp1.kept (k := lb) rfl).trans (hp.kept (k := lb) rfl).symm
                  have Hlt2 : Hid (∀ q, q < 9 → w1.cell? ⟨lb, q, none⟩ = some (.bool (lt q))) := fun q hq => (World.cell?_of_block (a := ⟨lb, q, none⟩) hkb).trans (Hlt.out q hq)
                  have Hfz2 : Hid (∀ q, w1.frozen? ⟨lb, q, none⟩ = false) := fun q => (World.frozen?_of_block (a := ⟨lb, q, none⟩) hkb).trans (Hfz.out q)
                  obtain ⟨b1, b2⟩ := B12.out
                  clear hin Hcw hee hkb Hwl C12 B12 Hst2 hp Hlt Hfz e0 e1 e2 hsame
                  go_wp2_with fail
                  go_roundw
                  case rel => exact ⟨k + 1, st2, lt, wk, by omega, by go_num, hp1, hl2, hs2, his2, Hin, Hlt2, Hfz2, b1, b2⟩
                  case measure => simp [intOf]; omega
              · have k0 : (kd == 0) = false := by simpa using h0
                obtain ⟨d0, -, -⟩ := Hcells.out _ _ _ hp
                have hP := fun n => hp.drewN n
                have HP := Lib.hid hP
                have B12 := Lib.hid (show st.calls ≤ 201 + (k + 1) ∧ st.wait.length ≤ k + 1 by omega)
                clear hp hcal hwt h0 hP
                go_wp2_with fail
                go_quiet (fail)
                clear d0
                go_wp2_with fail
                go_roundw
                case rel => exact ⟨k + 1, st, lt, wk, by omega, by go_num, HP.out _, hlv, Hsz, His, Hin, Hlt, Hfz, B12.out.1, B12.out.2⟩
                case measure => simp [intOf]; omega
            · have hcr := hp.crash (by omega) keep hkeep
              have hof : (st.crash keep).off = true := by simp only [PS.crash, hlv.2.1]; rfl
              have hcl : (st.crash keep).calls ≤ 500 := by rw [PS.calls_crash]; omega
              have hwl : (st.crash keep).wait.length ≤ 500 := Nat.le_trans (PS.wait_crash _ _) (by omega)
              have hsE : (st.crash keep).syncE = 70 := by simp [PS.syncE, hof]
              have hsS : (st.crash keep).syncS = st.crash keep := by simp [PS.syncS, hof]
              have hwr : Hid (∀ q : Nat, q < 9 → ((st.crash keep).power).wrong q = 0) := fun q hq => PS.wrong_again st keep q (by rw [Hsz.out]; exact hq) hlv.2.1
              have hrd : Hid (∀ q : Nat, q < 9 → lt q = false → ((st.crash keep).power).readV q = is1.getD q []) := fun q hq h => by
                rw [← His.out]
                refine (PS.readV_again st keep q (by rw [Hsz.out]; exact hq) hlv.2.1 fun x hx e => ?_).1
                have := Hin.out x hx
                rw [e, h] at this
                cases this
              have hln : Hid (st.is.length = 9) := by show _ = _; rw [hlv.1.len, Hsz.out]
              have Hkp : Hid (∀ w' st' sr', P2 ⟨b, w, fun q => q = lb, wk⟩ w' b st' c sr' → ∀ q, q < 9 → w'.cell? ⟨lb, q, none⟩ = some (.bool (lt q))) := fun w' st' sr' h q hq =>
                (World.cell?_of_block (a := ⟨lb, q, none⟩) ((h.kept (k := lb) rfl).trans (hp.kept (k := lb) rfl).symm)).trans (Hlt.out q hq)
              generalize st.crash keep = sc at hcr hof hcl hwl hsE hsS hwr hrd
              clear hp hlv Hsz Hin Hlt Hfz hcal hwt
              go_wp2_with fail
              refine hcr.mono ?_
              rintro e w5 ⟨rfl, hp⟩
              have hdd := hp.dead
              rw [hof] at hdd
              have hsy := hp.sync (by omega) (by omega)
              rw [hsE, hsS] at hsy
              clear hcr hof hsE hsS hp hcl
              go_wp2_with fail
              refine hdd.mono ?_
              rintro e w6 ⟨rfl, rfl⟩
              clear hdd
              go_wp2_with fail
              refine hsy.mono ?_
              rintro e w6 ⟨rfl, hp⟩
              clear hsy
              have hpw := hp.power
              have hwl2 : sc.power.wait.length ≤ 500 := hwl
              generalize sc.power = sp at hpw hwr hrd hwl2
              clear hp hwl
              go_wp2_with fail
              refine hpw.mono ?_
              rintro e w7 ⟨rfl, hp⟩
              clear hpw
              go_wp2_with fail
              go_loopw [12] (fun i wr => ∃ q : Nat, q ≤ 9 ∧ i = .int .i64 (q : Int) ∧ P2 ⟨b, w, fun q => q = lb, wk⟩ wr b sp c st)
                (fun i _ => 9 - (intOf i).toNat)
              case atStart => exact ⟨0, by omega, rfl, hp⟩
              case round =>
                clear hp
                obtain ⟨q, hq, rfl, hp⟩ := hrel
                by_cases hq9 : q < 9
                · have hre := hp.readAt (by omega) (q : Int)
                  rw [hwr.out q hq9] at hre
                  cases hlq : lt q
                  · have hX := hrd.out q hq9 hlq
                    rw [hX] at hre
                    obtain ⟨sq, hsq⟩ : ∃ s, st.is[q]? = some s := ⟨_, List.getElem?_eq_getElem (by rw [hln.out]; exact hq9)⟩
                    have hgd : is1.getD q [] = sq := by rw [← His.out, List.getD_eq_getElem?_getD, hsq]; rfl
                    rw [hgd] at hre
                    clear hX hgd hp
                    go_wp2_with fail
                    refine hre.mono ?_
                    rintro e w8 ⟨rfl, hp8⟩
                    have c1 := Hkp.out _ _ _ hp8 q hq9
                    rw [hlq] at c1
                    obtain ⟨gg, capg, c2, c3⟩ := hp8.isAt hsq
                    rw [hln.out] at c2
                    have e3 : str sq = .string ⟨sq.toArray⟩ := rfl
                    rw [e3] at c3
                    generalize (⟨sq.toArray⟩ : ByteArray) = X at c3 ⊢
                    clear hre hsq e3 hlq
                    go_wp2_with fail
                    go_roundw
                    case rel => exact ⟨q + 1, by omega, by go_num, hp8⟩
                    case measure => simp [intOf]; omega
                  · clear hp
                    go_wp2_with fail
                    refine hre.mono ?_
                    rintro e w8 ⟨rfl, hp8⟩
                    have c1 := Hkp.out _ _ _ hp8 q hq9
                    rw [hlq] at c1
                    clear hre hlq
                    go_wp2_with fail
                    go_roundw
                    case rel => exact ⟨q + 1, by omega, by go_num, hp8⟩
                    case measure => simp [intOf]; omega
                · go_wp2_with fail
                  go_ret
                  exact ⟨rfl, by rw [HB.out]; exact hp.below⟩
    · rw [hhv] at hh
      rw [hhv2] at hh2
      clear hhv hhv2
      go_enter Try.func6, Try.ntmps6
      go_wp2_with fail
      refine hh.mono ?_
      rintro e w1 ⟨rfl, rfl⟩
      go_wp2_with fail
      refine hh2.mono ?_
      rintro e w1 ⟨rfl, rfl⟩
      go_wp2_with fail
      go_ret
      exact ⟨rfl, Below.refl _ _⟩
  · rw [hhv] at hh
    clear hhv hh2
    go_enter Try.func6, Try.ntmps6
    go_wp2_with fail
    refine hh.mono ?_
    rintro e w1 ⟨rfl, rfl⟩
    go_wp2_with fail
    go_ret
    exact ⟨rfl, Below.refl _ _⟩
end Go.Proofs.Ytahmnehfadiegaa
