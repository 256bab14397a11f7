/- PlateReads: its walk. Printed by gen_reads.py. -/
import Derived.Test.YtahmnehfadiegaaPF
import Derived.Test.YtahmnehfadiegaaReadsPlain
import Derived.Test.YtahmnehfadiegaaScript
import Derived.Deep.AppendLies
namespace Go.Proofs.Ytahmnehfadiegaa
open Go.RowKit
/-- What was read of the first j sectors. -/
def wasOf (st : PS) (j : Nat) : List (List UInt8) := (List.range j).map fun k : Nat => st.readV (k : Int)
theorem wasOf_snoc (st : PS) (j : Nat) : scells (wasOf st (j + 1)) = scells (wasOf st j) ++ [.string ⟨(st.readV j).toArray⟩] := by
  simp [wasOf, scells, List.range_succ, str]
theorem wasOf_at (st : PS) {j k : Nat} (h : k < j) : (scells (wasOf st j))[k]? = some (.string ⟨(st.readV k).toArray⟩) := by
  simp [wasOf, scells, str, List.getElem?_range h]
set_option maxRecDepth 100000 in
set_option maxHeartbeats 4000000 in
theorem reads_any (i : Int) (s : ByteArray) (hs : s.size ≤ maxLen) {v : Value} {l : List Stp} {w : World} (ha : ArgRow w v 4 (l.map Stp.cells)) (hfit : ∀ o ∈ l, o.fits) :
    Calls Try.prog 4 #[v, .int .i64 i, .string s] w fun e w' => e = .returned (.bool true) ∧ Below w.heap.size w w' := by
  have hh := heavy_any ha hfit
  unfold maxLen at hs
  cases hhv : hvB l
  · by_cases hsl : 1024 < s.size
    · rw [hhv] at hh
      clear hhv
      go_enter Try.func4, Try.ntmps4
      go_wp2_with fail
      refine hh.mono ?_
      rintro e w1 ⟨rfl, rfl⟩
      go_wp2_with fail
      go_ret
      exact ⟨rfl, Below.refl _ _⟩
    have hlen := hvB_len hhv
    rw [hhv] at hh
    clear hhv
    obtain ⟨i0, hi0, hz0, hz1, hz2⟩ := info_parts Try.infoStr
    have Hi := Lib.hid hi0
    have Hz := Lib.hid hz0
    have Hz1 := Lib.hid hz1
    have Hz2 := Lib.hid hz2
    clear hi0 hz0 hz1 hz2
    obtain ⟨base, cap, rfl, hm, hrow⟩ := ha
    rw [List.length_map] at hh ⊢
    clear hm
    go_enter Try.func4, Try.ntmps4
    go_wp2_with fail
    refine hh.mono ?_
    rintro e w1 ⟨rfl, rfl⟩
    clear hh
    go_wp2_with fail
    refine (P1.made _).mono ?_
    rintro e w1 ⟨rfl, hp1⟩
    go_wp2_with fail
    refine (P2.made hp1 _).mono ?_
    rintro e w2 ⟨rfl, hp⟩
    clear hp1
    have hlv : (PS.new (sizeOfN 9)).live := PS.live_new _ (by decide) (by decide)
    have hsz : (PS.new (sizeOfN 9)).size = 9 := rfl
    have hc0 : (PS.new (sizeOfN 9)).calls ≤ 0 := Nat.le_refl _
    have hw0 : (PS.new (sizeOfN 9)).wait.length ≤ 0 := Nat.le_refl _
    generalize PS.new (sizeOfN 9) = st at hp hlv hsz hc0 hw0
    generalize w1.heap.size = c at hp ⊢
    generalize hb : w.heap.size = b at hp ⊢
    have HB := Lib.hid hb
    clear hb
    have Hsz := Lib.hid hsz
    clear hsz
    go_wp2_with fail
    go_loopw [9] (fun i wr => ∃ (k : Nat) (st : PS) (wk : World), k ≤ l.length ∧ i = .int .i64 (k : Int) ∧ P2 ⟨b, w, fun _ => False, wk⟩ wr b st c st ∧ st.live ∧ Hid (st.size = 9) ∧ st.calls ≤ k ∧ st.wait.length ≤ k)
      (fun i _ => l.length - (intOf i).toNat)
    case atStart => exact ⟨0, st, w1, Nat.zero_le _, rfl, hp, hlv, Hsz, hc0, hw0⟩
    case round =>
      clear hp hc0 hw0 hlv Hsz
      obtain ⟨k, st, wk, hk, rfl, hp, hlv, Hsz, hcal, hwt⟩ := hrel
      by_cases hlt : k < l.length
      · obtain ⟨o, ho⟩ : ∃ o, l[k]? = some o := ⟨_, List.getElem?_eq_getElem hlt⟩
        obtain ⟨g, off, rfl, hgl, hc⟩ := hrow k o.cells (by rw [List.getElem?_map, ho]; rfl)
        obtain ⟨hf0, hf1, hf2, hf3⟩ := hfit o (List.mem_of_getElem? ho)
        clear ho
        obtain ⟨kd, oi, os, okeep⟩ := o
        have hcl : ∀ w' st' sr', P2 ⟨b, w, fun _ => False, wk⟩ w' b st' c sr' →
            w'.cell? ⟨g, off + k * 4, none⟩ = some (.int .i64 kd) ∧ w'.cell? ⟨g, off + k * 4 + 1, none⟩ = some (.int .i64 oi) ∧ w'.cell? ⟨g, off + k * 4 + 2, none⟩ = some (.string os) := by
          intro w' st' sr' h
          have hgb : ∀ q, w'.cell? ⟨g, q, none⟩ = w.cell? ⟨g, q, none⟩ := fun q => World.cell?_of_block (a := ⟨g, q, none⟩) (h.below.block g (by rw [← HB.out]; exact hgl))
          exact ⟨(hgb _).trans (hc 0 _ rfl), (hgb _).trans (hc 1 _ rfl), (hgb _).trans (hc 2 _ rfl)⟩
        have Hcells := Lib.hid hcl
        clear hc hcl
        rcases (show kd = 0 ∨ kd = 1 ∨ (kd ≠ 0 ∧ kd ≠ 1) by omega) with rfl | rfl | ⟨h0, h1⟩
        · have b1 : (st.writeS oi os.data.toList).calls ≤ k + 1 := Nat.le_trans (PS.calls_writeS _ _ _) (by omega)
          have b2 : (st.writeS oi os.data.toList).wait.length ≤ k + 1 := Nat.le_trans (PS.wait_writeS _ _ _) (by omega)
          have hl2 := hlv.write oi os.data.toList
          have hs2 : Hid ((st.writeS oi os.data.toList).size = 9) := (hlv.size_write oi os.data.toList).trans Hsz.out
          have hcw := hp.drew.write (by omega) (by omega) oi os hf2
          have hcr : ∀ w1, P2 ⟨b, w, fun _ => False, wk⟩ w1 b (st.writeS oi os.data.toList) c st → _ := fun w1 h => h.rwrite (by omega) (by omega) oi os hf2
          generalize st.writeE oi os.data.toList = ee at hcw hcr
          generalize st.writeS oi os.data.toList = st2 at hcw hcr b1 b2 hl2 hs2
          have Hcr := Lib.hid hcr
          have B12 := Lib.hid (And.intro b1 b2)
          obtain ⟨d0, d1, d2⟩ := Hcells.out _ _ _ hp.drew
          clear hcr hp b1 b2 hcal hwt
          go_wp2_with fail
          go_region_held3 (fun w' => w'.cell? ⟨g, off + k * 4, none⟩ = some (.int .i64 0) ∧ w'.cell? ⟨g, off + k * 4 + 1, none⟩ = some (.int .i64 oi) ∧ w'.cell? ⟨g, off + k * 4 + 2, none⟩ = some (.string os)) (first | exact ⟨d0, d1, d2⟩ | exact ⟨e0, e1, e2⟩ | exact ⟨f0, f1, f2⟩)
            ((first
              | (go_at_call 11
                 refine hcw.mono ?_
                 rintro e w1 ⟨rfl, hp1⟩
                 obtain ⟨e0, e1, e2⟩ := Hcells.out _ _ _ hp1)
              | (go_at_call 18
                 refine (Hcr.out _ hp1).mono ?_
                 rintro e w2 ⟨rfl, hp2⟩
                 obtain ⟨f0, f1, f2⟩ := Hcells.out _ _ _ hp2)))
          obtain ⟨b1, b2⟩ := B12.out
          clear d0 d1 d2 hcw Hcr e0 e1 e2 f1 f2 hp1 B12
          go_wp2_with fail
          go_roundw
          case rel => exact ⟨k + 1, st2, wk, by omega, by go_num, hp2, hl2, hs2, b1, b2⟩
          case measure => simp [intOf]; omega
        · have b1 : st.syncS.calls ≤ k + 1 := Nat.le_trans (PS.calls_syncS _) (by omega)
          have b2 : st.syncS.wait.length ≤ k + 1 := Nat.le_trans (PS.wait_syncS _) (by omega)
          have hl2 := hlv.sync
          have hs2 : Hid (st.syncS.size = 9) := hlv.size_sync.trans Hsz.out
          have hcw := fun n => (hp.drewN n).sync (by omega) (by omega)
          have hcr : ∀ w1, P2 ⟨b, w, fun _ => False, wk⟩ w1 b st.syncS c st → _ := fun w1 h => h.rsync (by omega) (by omega)
          generalize st.syncE = ee at hcw hcr
          generalize st.syncS = st2 at hcw hcr b1 b2 hl2 hs2
          have Hcr := Lib.hid hcr
          obtain ⟨d0, -, -⟩ := Hcells.out _ _ _ hp
          have D0 : ∀ n, Hid ((wr.drewN n).cell? ⟨g, off + k * 4, none⟩ = some (.int .i64 1)) := fun n => (Hcells.out _ _ _ (hp.drewN n)).1
          clear hcr hp hcal hwt
          go_wp2_with fail
          go_quiet (fail)
          have d1 := (D0 nq).out
          clear d0 D0
          go_wp2_with fail
          refine (hcw _).mono ?_
          rintro e w1 ⟨rfl, hp1⟩
          go_wp2_with fail
          refine (Hcr.out _ hp1).mono ?_
          rintro e w2 ⟨rfl, hp2⟩
          clear hcw Hcr hp1 d1
          go_wp2_with fail
          go_roundw
          case rel => exact ⟨k + 1, st2, wk, by omega, by go_num, hp2, hl2, hs2, b1, b2⟩
          case measure => simp [intOf]; omega
        · have k0 : (kd == 0) = false := by simpa using h0
          have k1 : (kd == 1) = false := by simpa using h1
          obtain ⟨d0, -, -⟩ := Hcells.out _ _ _ hp
          have D0 : ∀ n, Hid ((wr.drewN n).cell? ⟨g, off + k * 4, none⟩ = some (.int .i64 kd)) := fun n => (Hcells.out _ _ _ (hp.drewN n)).1
          have hP := fun n => hp.drewN n
          have HP := Lib.hid hP
          have B12 := Lib.hid (show st.calls ≤ k + 1 ∧ st.wait.length ≤ k + 1 by omega)
          clear hp hcal hwt h0 h1 hP
          go_wp2_with fail
          go_quiet (fail)
          have d1 := (D0 nq).out
          clear d0 D0
          go_wp2_with fail
          go_roundw
          case rel => exact ⟨k + 1, st, wk, by omega, by go_num, HP.out _, hlv, Hsz, B12.out.1, B12.out.2⟩
          case measure => simp [intOf]; omega
      · have HW := Lib.hid hwt
        have HC := Lib.hid hcal
        have hpf := hp.plate
        clear hp hwt hcal
        have hk200 : k ≤ 200 := by omega
        have hpA : PF ⟨b, w, fun q => q = wr.heap.size, wr.alloc (.cells #[] 9)⟩ (wr.alloc (.cells #[] 9)) b st :=
          hpf.moved (G := fun _ => False) ((Moves.refl _ wr).alloc _) (fun _ h => h.elim) (fun q hq => ⟨by simp [hq], .inr (by show wr.heap.size ≤ q; omega)⟩)
        have hkA : Kept ⟨b, w, fun q => q = wr.heap.size, wr.alloc (.cells #[] 9)⟩ (.slice (some ⟨wr.heap.size, 0, none⟩) 0 0) := fun q hq => by
          simp only [Value.ownBlock, Option.some.injEq] at hq
          have hbb : b ≤ wr.heap.size := hpf.hB
          exact ⟨hq.symm, by show b ≤ q; omega⟩
        have hoA : (wr.alloc (.cells #[] 9)).ownsRow 0 9 1 (.slice (some ⟨wr.heap.size, 0, none⟩) 0 0) 0 (scells (wasOf st 0)) := World.ownsRow_lit (base := 0) (size := 1) (e := 9) wr #[] 0 (Nat.zero_le _) (by unfold maxLen; omega) rfl
        clear hpf
        go_wp2_with fail
        go_loopw [10, 11] (fun v i wq => ∃ (j : Nat) (K : Nat → Prop) (wk : World), j ≤ 9 ∧ i = .int .i64 (j : Int) ∧ PF ⟨b, w, K, wk⟩ wq b st ∧ Kept ⟨b, w, K, wk⟩ v ∧ wq.ownsRow 0 9 1 v j (scells (wasOf st j)))
          (fun _ i _ => 9 - (intOf i).toNat)
        case atStart => exact ⟨0, _, _, Nat.zero_le _, rfl, hpA, hkA, hoA⟩
        case round =>
          clear hpA hkA hoA
          obtain ⟨j, K, wk2, hj, rfl, hp, hkp, ho⟩ := hrel
          by_cases hlt2 : j < 9
          · go_wp2_with fail
            refine (hp.readAt (by have := HW.out; omega) (j : Int)).mono ?_
            rintro e w4 ⟨rfl, hp4⟩
            have ho4 := hp.row hp4 hkp ho
            have hsn := wasOf_snoc st j
            generalize (⟨(st.readV (j : Int)).toArray⟩ : ByteArray) = X at hsn ⊢
            have Hsn := Lib.hid hsn
            have hoB : (w4.alloc (.cells #[.string X] 9)).ownsRow 0 9 1 u10 j (scells (wasOf st j)) := ho4.alloc _
            have hnl : ∀ q u, [Value.string X][q]? = some u → (w4.alloc (.cells #[.string X] 9)).cell? ((⟨w4.heap.size, 0, none⟩ : Addr).add q) = some u := news_last w4 [.string X] 9
            have h1c : ∀ q ∈ [Value.string X], q.oneCell' = true := by
              intro q hq
              simp only [List.mem_cons, List.not_mem_nil, or_false] at hq
              rw [hq]; rfl
            have hml : j + 1 ≤ maxLen := by unfold maxLen; omega
            clear hsn hp ho ho4
            go_wp2_with (refine wpList_append_lies _ rfl (.tmp 92) (.tmp 94) 39 rfl 0 9 i0 _ 1 16 Try.underlying39 Hi.out Hz.out Hz1.out Hz2.out rfl (by decide) u10 j (scells (wasOf st j)) rfl hoB ⟨w4.heap.size, 0, none⟩ 1 1 [.string X] rfl rfl hnl h1c (by decide) hml (by omega) (Nat.zero_le _) _ rfl ?_)
            intro g cap2 w5 hown hgrow hat hlt3
            have hgr := hp4.grown (v' := .slice (some ⟨g, 0, none⟩) (j + 1) cap2) hkp hgrow (fun q hq => by simp only [Value.ownBlock, Option.some.injEq] at hq; subst hq; exact hat) (by omega) (fun q hq => by simp only [Value.ownBlock, Option.some.injEq] at hq; subst hq; exact hlt3)
            obtain ⟨hp5, hk5⟩ := hgr
            rw [← Hsn.out] at hown
            clear hgrow hat hp4 hkp hoB hnl h1c
            go_wp2_with fail
            go_roundw
            case rel => exact ⟨j + 1, _, _, by omega, by go_num, hp5, hk5, hown⟩
            case measure => simp [intOf]; omega
          · obtain rfl : j = 9 := by omega
            obtain ⟨gw, capw, rfl, -⟩ := own_at ho (wasOf_at st (show 0 < 9 by decide))
            have hwas : ∀ w' st', PF ⟨b, w, K, wk2⟩ w' b st' → ∀ q : Nat, q < 9 → w'.cell? ⟨gw, q, none⟩ = some (.string ⟨(st.readV (q : Int)).toArray⟩) := by
              intro w' st' h q hq
              have hr := hp.row h hkp ho
              have := hr.cellAt q (by omega)
              rw [this]
              exact wasOf_at st hq
            have Hwas := Lib.hid hwas
            clear hwas ho hkp hj hlt2
            have hl1 := hlv.write i s.data.toList
            have hs1 : Hid ((st.writeS i s.data.toList).size = 9) := (hlv.size_write i s.data.toList).trans Hsz.out
            have hR : ∀ q : Nat, q < 9 → (st.writeS i s.data.toList).readV q = if st.writeE i s.data.toList = 0 ∧ i = (q : Int) then pad s.data.toList else st.readV q := fun q hq => hlv.readV_write i s.data.toList q (by rw [Hsz.out]; exact hq)
            have hL : ∀ q : Nat, q < 9 → ((st.writeS i s.data.toList).readV q).length = 32 := fun q hq => hl1.readV_len q (by rw [hs1.out]; exact hq)
            have b1 : (st.writeS i s.data.toList).calls ≤ 201 := Nat.le_trans (PS.calls_writeS _ _ _) (by have := HC.out; omega)
            have b2 : (st.writeS i s.data.toList).wait.length ≤ 201 := Nat.le_trans (PS.wait_writeS _ _ _) (by have := HW.out; omega)
            have hww := hp.write (by have := HC.out; omega) (by have := HW.out; omega) i s (by unfold maxLen; omega)
            have hel : s.data.toList.length = s.size := rfl
            have hE : st.writeE i s.data.toList = if i < 0 ∨ 9 ≤ i then 71 else if s.size ≤ 32 then 0 else 11 := by
              rw [hlv.writeE, hlv.wrong, Hsz.out, hel]
              by_cases hi : i < 0 ∨ 9 ≤ i
              · have hi' : i < 0 ∨ ((9 : Nat) : Int) ≤ i := hi
                rw [if_pos hi', if_pos hi]; rfl
              · have hi' : ¬ (i < 0 ∨ ((9 : Nat) : Int) ≤ i) := hi
                rw [if_neg hi', if_neg hi]; rfl
            have HL := Lib.hid hL
            have HR := Lib.hid hR
            have HE := Lib.hid hE
            clear hL hR hE hel hp
            generalize st.writeE i s.data.toList = ee at hww HR HE
            generalize st.writeS i s.data.toList = st1 at hww HR HL hl1 hs1 b1 b2
            go_wp2_with fail
            refine hww.mono ?_
            rintro e w3 ⟨rfl, hp⟩
            clear hww
            rcases (show (i < 0) ∨ (9 ≤ i) ∨ (0 ≤ i ∧ i < 9 ∧ 32 < s.size) ∨ (0 ≤ i ∧ i < 9 ∧ s.size ≤ 32) by omega) with h1 | h1 | ⟨h1, h2, h3⟩ | ⟨h1, h2, h3⟩
            · have he : ee = 71 := by rw [HE.out]; rw [if_pos (.inl h1)]
              subst he
              go_wp2_with fail
              go_loopw [15] (fun i15 wq => ∃ (n : Nat) (st' : PS), n ≤ 2 ∧ i15 = .int .i64 (n : Int) ∧ PF ⟨b, w, K, wk2⟩ wq b st' ∧ st'.live ∧ Hid (st'.size = 9) ∧ Hid (∀ q : Nat, q < 9 → st'.readV q = st1.readV q) ∧ st'.calls ≤ 201 + n ∧ st'.wait.length ≤ 201)
                (fun i15 _ => 2 - (intOf i15).toNat)
              case atStart => exact ⟨0, st1, by omega, rfl, hp, hl1, hs1, fun _ _ => rfl, by omega, b2⟩
              case round =>
                clear hp hl1 hs1 b1 b2
                obtain ⟨n, st', hn, rfl, hp, hl', hs', hR', c1, c2⟩ := hrel
                by_cases hn2 : n < 2
                · have hd : decide ((n : Int) < 2) = true := by simp; omega
                  go_wp2_with fail
                  go_loopw [16] (fun i16 wq => ∃ (q : Nat), q ≤ 9 ∧ i16 = .int .i64 (q : Int) ∧ PF ⟨b, w, K, wk2⟩ wq b st')
                    (fun i16 _ => 9 - (intOf i16).toNat)
                  case atStart => exact ⟨0, by omega, rfl, hp⟩
                  case round =>
                    clear hp
                    obtain ⟨q, hq, rfl, hp⟩ := hrel
                    by_cases hq9 : q < 9
                    · have hrd := hp.readAt (by omega) (q : Int)
                      have hwr : st'.wrong (q : Int) = 0 := by rw [hl'.wrong, hs'.out, if_neg (by omega)]
                      rw [hwr] at hrd
                      have hXl : (⟨(st'.readV (q : Int)).toArray⟩ : ByteArray).size = 32 := by
                        have := HL.out q hq9
                        rw [hR'.out q hq9]
                        simpa [ByteArray.size] using this
                      have hXr := HR.out q hq9
                      rw [← hR'.out q hq9] at hXr
                      clear hwr
                      have hXY : (⟨(st.readV (q : Int)).toArray⟩ : ByteArray) = ⟨(st'.readV (q : Int)).toArray⟩ := by
                        rw [hXr, if_neg (by intro h; simp at h)]
                      go_wp2_with fail
                      refine hrd.mono ?_
                      rintro e w4 ⟨rfl, hp4⟩
                      have cw := Hwas.out _ _ hp4 q hq9
                      rw [hXY] at cw
                      generalize (⟨(st'.readV (q : Int)).toArray⟩ : ByteArray) = X at hXl cw ⊢
                      have hXl2 : (X.size : Int) = 32 := by omega
                      clear hXr hXY hrd hp hXl
                      go_wp2_with fail
                      go_roundw
                      case rel => exact ⟨q + 1, by omega, by go_num, hp4⟩
                      case measure => simp [intOf]; omega
                    · have hsy := hp.sync (by omega) (by omega)
                      rw [hl'.syncE] at hsy
                      have hl2 := hl'.sync
                      have hs2 : Hid (st'.syncS.size = 9) := hl'.size_sync.trans hs'.out
                      have hR2 : Hid (∀ q : Nat, q < 9 → st'.syncS.readV q = st1.readV q) := fun q hq => (hl'.readV_sync q).trans (hR'.out q hq)
                      have b1 : st'.syncS.calls ≤ 201 + (n + 1) := Nat.le_trans (PS.calls_syncS _) (by omega)
                      have b2 : st'.syncS.wait.length ≤ 201 := Nat.le_trans (PS.wait_syncS _) (by omega)
                      clear hp
                      go_wp2_with fail
                      refine hsy.mono ?_
                      rintro e w4 ⟨rfl, hp⟩
                      clear hsy
                      go_wp2_with fail
                      go_roundw
                      case rel => exact ⟨n + 1, st'.syncS, by omega, by go_num, hp, hl2, hs2, hR2, b1, b2⟩
                      case measure => simp [intOf]; omega
                · go_wp2_with fail
                  go_ret
                  exact ⟨rfl, by rw [HB.out]; exact hp.below⟩
            · have he : ee = 71 := by rw [HE.out]; rw [if_pos (.inr h1)]
              subst he
              go_wp2_with fail
              go_loopw [15] (fun i15 wq => ∃ (n : Nat) (st' : PS), n ≤ 2 ∧ i15 = .int .i64 (n : Int) ∧ PF ⟨b, w, K, wk2⟩ wq b st' ∧ st'.live ∧ Hid (st'.size = 9) ∧ Hid (∀ q : Nat, q < 9 → st'.readV q = st1.readV q) ∧ st'.calls ≤ 201 + n ∧ st'.wait.length ≤ 201)
                (fun i15 _ => 2 - (intOf i15).toNat)
              case atStart => exact ⟨0, st1, by omega, rfl, hp, hl1, hs1, fun _ _ => rfl, by omega, b2⟩
              case round =>
                clear hp hl1 hs1 b1 b2
                obtain ⟨n, st', hn, rfl, hp, hl', hs', hR', c1, c2⟩ := hrel
                by_cases hn2 : n < 2
                · have hd : decide ((n : Int) < 2) = true := by simp; omega
                  go_wp2_with fail
                  go_loopw [16] (fun i16 wq => ∃ (q : Nat), q ≤ 9 ∧ i16 = .int .i64 (q : Int) ∧ PF ⟨b, w, K, wk2⟩ wq b st')
                    (fun i16 _ => 9 - (intOf i16).toNat)
                  case atStart => exact ⟨0, by omega, rfl, hp⟩
                  case round =>
                    clear hp
                    obtain ⟨q, hq, rfl, hp⟩ := hrel
                    by_cases hq9 : q < 9
                    · have hrd := hp.readAt (by omega) (q : Int)
                      have hwr : st'.wrong (q : Int) = 0 := by rw [hl'.wrong, hs'.out, if_neg (by omega)]
                      rw [hwr] at hrd
                      have hXl : (⟨(st'.readV (q : Int)).toArray⟩ : ByteArray).size = 32 := by
                        have := HL.out q hq9
                        rw [hR'.out q hq9]
                        simpa [ByteArray.size] using this
                      have hXr := HR.out q hq9
                      rw [← hR'.out q hq9] at hXr
                      clear hwr
                      have hXY : (⟨(st.readV (q : Int)).toArray⟩ : ByteArray) = ⟨(st'.readV (q : Int)).toArray⟩ := by
                        rw [hXr, if_neg (by intro h; simp at h)]
                      go_wp2_with fail
                      refine hrd.mono ?_
                      rintro e w4 ⟨rfl, hp4⟩
                      have cw := Hwas.out _ _ hp4 q hq9
                      rw [hXY] at cw
                      generalize (⟨(st'.readV (q : Int)).toArray⟩ : ByteArray) = X at hXl cw ⊢
                      have hXl2 : (X.size : Int) = 32 := by omega
                      clear hXr hXY hrd hp hXl
                      go_wp2_with fail
                      go_roundw
                      case rel => exact ⟨q + 1, by omega, by go_num, hp4⟩
                      case measure => simp [intOf]; omega
                    · have hsy := hp.sync (by omega) (by omega)
                      rw [hl'.syncE] at hsy
                      have hl2 := hl'.sync
                      have hs2 : Hid (st'.syncS.size = 9) := hl'.size_sync.trans hs'.out
                      have hR2 : Hid (∀ q : Nat, q < 9 → st'.syncS.readV q = st1.readV q) := fun q hq => (hl'.readV_sync q).trans (hR'.out q hq)
                      have b1 : st'.syncS.calls ≤ 201 + (n + 1) := Nat.le_trans (PS.calls_syncS _) (by omega)
                      have b2 : st'.syncS.wait.length ≤ 201 := Nat.le_trans (PS.wait_syncS _) (by omega)
                      clear hp
                      go_wp2_with fail
                      refine hsy.mono ?_
                      rintro e w4 ⟨rfl, hp⟩
                      clear hsy
                      go_wp2_with fail
                      go_roundw
                      case rel => exact ⟨n + 1, st'.syncS, by omega, by go_num, hp, hl2, hs2, hR2, b1, b2⟩
                      case measure => simp [intOf]; omega
                · go_wp2_with fail
                  go_ret
                  exact ⟨rfl, by rw [HB.out]; exact hp.below⟩
            · have he : ee = 11 := by rw [HE.out]; rw [if_neg (by omega), if_neg (by omega)]
              subst he
              go_wp2_with fail
              go_loopw [15] (fun i15 wq => ∃ (n : Nat) (st' : PS), n ≤ 2 ∧ i15 = .int .i64 (n : Int) ∧ PF ⟨b, w, K, wk2⟩ wq b st' ∧ st'.live ∧ Hid (st'.size = 9) ∧ Hid (∀ q : Nat, q < 9 → st'.readV q = st1.readV q) ∧ st'.calls ≤ 201 + n ∧ st'.wait.length ≤ 201)
                (fun i15 _ => 2 - (intOf i15).toNat)
              case atStart => exact ⟨0, st1, by omega, rfl, hp, hl1, hs1, fun _ _ => rfl, by omega, b2⟩
              case round =>
                clear hp hl1 hs1 b1 b2
                obtain ⟨n, st', hn, rfl, hp, hl', hs', hR', c1, c2⟩ := hrel
                by_cases hn2 : n < 2
                · have hd : decide ((n : Int) < 2) = true := by simp; omega
                  go_wp2_with fail
                  go_loopw [16] (fun i16 wq => ∃ (q : Nat), q ≤ 9 ∧ i16 = .int .i64 (q : Int) ∧ PF ⟨b, w, K, wk2⟩ wq b st')
                    (fun i16 _ => 9 - (intOf i16).toNat)
                  case atStart => exact ⟨0, by omega, rfl, hp⟩
                  case round =>
                    clear hp
                    obtain ⟨q, hq, rfl, hp⟩ := hrel
                    by_cases hq9 : q < 9
                    · have hrd := hp.readAt (by omega) (q : Int)
                      have hwr : st'.wrong (q : Int) = 0 := by rw [hl'.wrong, hs'.out, if_neg (by omega)]
                      rw [hwr] at hrd
                      have hXl : (⟨(st'.readV (q : Int)).toArray⟩ : ByteArray).size = 32 := by
                        have := HL.out q hq9
                        rw [hR'.out q hq9]
                        simpa [ByteArray.size] using this
                      have hXr := HR.out q hq9
                      rw [← hR'.out q hq9] at hXr
                      clear hwr
                      have hXY : (⟨(st.readV (q : Int)).toArray⟩ : ByteArray) = ⟨(st'.readV (q : Int)).toArray⟩ := by
                        rw [hXr, if_neg (by intro h; simp at h)]
                      go_wp2_with fail
                      refine hrd.mono ?_
                      rintro e w4 ⟨rfl, hp4⟩
                      have cw := Hwas.out _ _ hp4 q hq9
                      rw [hXY] at cw
                      generalize (⟨(st'.readV (q : Int)).toArray⟩ : ByteArray) = X at hXl cw ⊢
                      have hXl2 : (X.size : Int) = 32 := by omega
                      clear hXr hXY hrd hp hXl
                      go_wp2_with fail
                      go_roundw
                      case rel => exact ⟨q + 1, by omega, by go_num, hp4⟩
                      case measure => simp [intOf]; omega
                    · have hsy := hp.sync (by omega) (by omega)
                      rw [hl'.syncE] at hsy
                      have hl2 := hl'.sync
                      have hs2 : Hid (st'.syncS.size = 9) := hl'.size_sync.trans hs'.out
                      have hR2 : Hid (∀ q : Nat, q < 9 → st'.syncS.readV q = st1.readV q) := fun q hq => (hl'.readV_sync q).trans (hR'.out q hq)
                      have b1 : st'.syncS.calls ≤ 201 + (n + 1) := Nat.le_trans (PS.calls_syncS _) (by omega)
                      have b2 : st'.syncS.wait.length ≤ 201 := Nat.le_trans (PS.wait_syncS _) (by omega)
                      clear hp
                      go_wp2_with fail
                      refine hsy.mono ?_
                      rintro e w4 ⟨rfl, hp⟩
                      clear hsy
                      go_wp2_with fail
                      go_roundw
                      case rel => exact ⟨n + 1, st'.syncS, by omega, by go_num, hp, hl2, hs2, hR2, b1, b2⟩
                      case measure => simp [intOf]; omega
                · go_wp2_with fail
                  go_ret
                  exact ⟨rfl, by rw [HB.out]; exact hp.below⟩
            · have he : ee = 0 := by rw [HE.out]; rw [if_neg (by omega), if_pos h3]
              subst he
              have h3i : (s.size : Int) ≤ 32 := by omega
              go_wp2_with fail
              go_loopw [15] (fun i15 wq => ∃ (n : Nat) (st' : PS), n ≤ 2 ∧ i15 = .int .i64 (n : Int) ∧ PF ⟨b, w, K, wk2⟩ wq b st' ∧ st'.live ∧ Hid (st'.size = 9) ∧ Hid (∀ q : Nat, q < 9 → st'.readV q = st1.readV q) ∧ st'.calls ≤ 201 + n ∧ st'.wait.length ≤ 201)
                (fun i15 _ => 2 - (intOf i15).toNat)
              case atStart => exact ⟨0, st1, by omega, rfl, hp, hl1, hs1, fun _ _ => rfl, by omega, b2⟩
              case round =>
                clear hp hl1 hs1 b1 b2
                obtain ⟨n, st', hn, rfl, hp, hl', hs', hR', c1, c2⟩ := hrel
                by_cases hn2 : n < 2
                · have hd : decide ((n : Int) < 2) = true := by simp; omega
                  go_wp2_with fail
                  go_loopw [16] (fun i16 wq => ∃ (q : Nat), q ≤ 9 ∧ i16 = .int .i64 (q : Int) ∧ PF ⟨b, w, K, wk2⟩ wq b st')
                    (fun i16 _ => 9 - (intOf i16).toNat)
                  case atStart => exact ⟨0, by omega, rfl, hp⟩
                  case round =>
                    clear hp
                    obtain ⟨q, hq, rfl, hp⟩ := hrel
                    by_cases hq9 : q < 9
                    · have hrd := hp.readAt (by omega) (q : Int)
                      have hwr : st'.wrong (q : Int) = 0 := by rw [hl'.wrong, hs'.out, if_neg (by omega)]
                      rw [hwr] at hrd
                      have hXl : (⟨(st'.readV (q : Int)).toArray⟩ : ByteArray).size = 32 := by
                        have := HL.out q hq9
                        rw [hR'.out q hq9]
                        simpa [ByteArray.size] using this
                      have hXr := HR.out q hq9
                      rw [← hR'.out q hq9] at hXr
                      clear hwr
                      by_cases hik : i = (q : Int)
                      · obtain ⟨z, hz⟩ : ∃ z, z = 32 - s.size := ⟨_, rfl⟩
                        obtain ⟨Z, HZ⟩ : ∃ Z : ByteArray, Hid (Z = ⟨(Zn z).toArray⟩) := ⟨_, rfl⟩
                        have hze : (z : Int) = 32 - (s.size : Int) := by omega
                        have hzz : ∀ w4, Calls Try.prog 21 #[.int .i64 (32 - (s.size : Int))] w4 fun e w' => e = .returned (.string Z) ∧ Below w4.heap.size w4 w' := fun w4 => by
                          rw [← hze, HZ.out]; exact zeros_any z (by omega) w4
                        have hZs : (Z.size : Int) = 32 - (s.size : Int) := by rw [← hze, HZ.out]; simp [ByteArray.size, Zn]
                        have hcat : ¬ 9223372036854775807 < s.size + Z.size := by omega
                        have hXY : (⟨(st'.readV (q : Int)).toArray⟩ : ByteArray) = s ++ Z := by
                          rw [hXr, if_pos (by simpa using hik)]
                          apply ByteArray.ext
                          rw [ByteArray.data_append, HZ.out, hz]
                          apply Array.toList_inj.1
                          simp [pad]
                        have hkq : ((q : Int) == i) = true := by simpa using hik.symm
                        have Hik := Lib.hid hik
                        clear hz hze hik
                        go_wp2_with fail
                        refine hrd.mono ?_
                        rintro e w4 ⟨rfl, hp4⟩
                        have cw := Hwas.out _ _ hp4 q hq9
                        generalize (⟨(st.readV (q : Int)).toArray⟩ : ByteArray) = Y at cw
                        have hXl2 : ((s ++ Z).size : Int) = 32 := by rw [← hXY]; omega
                        rw [hXY]
                        clear hXr hXY hrd hp hXl
                        go_wp2_with fail
                        refine (hzz _).mono ?_
                        rintro e w5 ⟨rfl, hb5⟩
                        have hp5 := hp4.quiet hb5
                        clear hp4 hb5 hzz
                        go_wp2_with fail
                        go_roundw
                        case rel => exact ⟨q + 1, by omega, by go_num, hp5⟩
                        case measure => simp [intOf]; omega
                      · have hXY : (⟨(st.readV (q : Int)).toArray⟩ : ByteArray) = ⟨(st'.readV (q : Int)).toArray⟩ := by
                          rw [hXr, if_neg (by exact fun h => hik h.2)]
                        have hkq : ((q : Int) == i) = false := by simpa using fun h => hik h.symm
                        go_wp2_with fail
                        refine hrd.mono ?_
                        rintro e w4 ⟨rfl, hp4⟩
                        have cw := Hwas.out _ _ hp4 q hq9
                        rw [hXY] at cw
                        generalize (⟨(st'.readV (q : Int)).toArray⟩ : ByteArray) = X at hXl cw ⊢
                        have hXl2 : (X.size : Int) = 32 := by omega
                        clear hXr hXY hrd hp hXl
                        go_wp2_with fail
                        go_roundw
                        case rel => exact ⟨q + 1, by omega, by go_num, hp4⟩
                        case measure => simp [intOf]; omega
                    · have hsy := hp.sync (by omega) (by omega)
                      rw [hl'.syncE] at hsy
                      have hl2 := hl'.sync
                      have hs2 : Hid (st'.syncS.size = 9) := hl'.size_sync.trans hs'.out
                      have hR2 : Hid (∀ q : Nat, q < 9 → st'.syncS.readV q = st1.readV q) := fun q hq => (hl'.readV_sync q).trans (hR'.out q hq)
                      have b1 : st'.syncS.calls ≤ 201 + (n + 1) := Nat.le_trans (PS.calls_syncS _) (by omega)
                      have b2 : st'.syncS.wait.length ≤ 201 := Nat.le_trans (PS.wait_syncS _) (by omega)
                      clear hp
                      go_wp2_with fail
                      refine hsy.mono ?_
                      rintro e w4 ⟨rfl, hp⟩
                      clear hsy
                      go_wp2_with fail
                      go_roundw
                      case rel => exact ⟨n + 1, st'.syncS, by omega, by go_num, hp, hl2, hs2, hR2, b1, b2⟩
                      case measure => simp [intOf]; omega
                · go_wp2_with fail
                  go_ret
                  exact ⟨rfl, by rw [HB.out]; exact hp.below⟩
  · rw [hhv] at hh
    clear hhv
    go_enter Try.func4, Try.ntmps4
    go_wp2_with fail
    refine hh.mono ?_
    rintro e w1 ⟨rfl, rfl⟩
    go_wp2_with fail
    go_ret
    exact ⟨rfl, Below.refl _ _⟩
end Go.Proofs.Ytahmnehfadiegaa
