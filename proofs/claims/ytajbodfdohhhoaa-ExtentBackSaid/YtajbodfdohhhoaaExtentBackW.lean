/- ExtentBack: its walk. The loop of the calls is printed by gen_ext.py. -/
import Derived.Test.YtajbodfdohhhoaaExtS
import Derived.Test.YtajbodfdohhhoaaExtSame
namespace Go.Proofs.Ytajbodfdohhhoaa
open Go.RowKit
set_option maxRecDepth 100000 in
set_option maxHeartbeats 8000000 in
theorem extentback_any {v : Value} {l : List Stp} {w : World} (ha : ArgRow w v 4 (l.map Stp.cells)) (r : Rg) (kk : Int) :
    Calls Try.prog 5 #[v, r.val, .int .i64 kk] w fun e w' => e = .returned (.bool true) ∧ Below w.heap.size w w' := by
  obtain ⟨base, cap, rfl, hm⟩ := ha.slice
  unfold maxLen at hm
  obtain ⟨W0, hW0⟩ : ∃ W0, w.alloc (.cells #[.int .i64 r.lo, .int .i64 r.hi] 27) = W0 := ⟨_, rfl⟩
  have hbW : Below w.heap.size w W0 := hW0 ▸ (Below.refl _ _).alloc (Nat.le_refl _) _
  have hbx : RBox W0 w.heap.size r := hW0 ▸ RBox.made w r _
  have hst : ∀ wr, Below W0.heap.size W0 wr → ∀ k s, l[k]? = some s → _ := fun wr hb k s hk => (ha.below (hbW.trans (hb.mono hbW.size))).step (k := k) (s := s) hk
  have Hst := Lib.hid hst
  clear hst ha
  have HbW := Lib.hid hbW
  have Hbx := Lib.hid hbx
  clear hbW hbx
  have hn := MS.new (wr := W0) W0 (fun _ => False) (Below.refl _ _) (fun _ h => h.elim) 200
  have Hn := Lib.hid hn
  clear hn
  by_cases hlen : (100 : Int) < (l.length : Int)
  · have e1 : decide ((100 : Int) < (l.length : Int)) = true := by simpa using hlen
    go_enter Try.func5, Try.ntmps5
    unfold Rg.val
    go_wp2_with fail
    try rw [hW0]
    go_ret
    exact ⟨rfl, HbW.out⟩
  have e1 : decide ((100 : Int) < (l.length : Int)) = false := by simpa using hlen
  go_enter Try.func5, Try.ntmps5
  unfold Rg.val
  go_wp2_with fail
  try rw [hW0]
  clear hW0
  refine Hn.out.mono ?_
  rintro e w1 ⟨rfl, hM, -⟩
  have e0 : nOf 200 = 200 := rfl
  rw [e0] at hM
  have HM := Lib.hid hM
  clear hM e0 e1
  go_wp2_with fail
  go_loopw [8] (fun i wr => ∃ (k : Nat) (L : List Rg), k ≤ l.length ∧ i = .int .i64 (k : Int) ∧ MS W0 (fun _ => False) (W0.heap.size + 1) 200 wr L) (fun i _ => l.length - (intOf i).toNat)
  case atStart => exact ⟨0, _, Nat.zero_le _, rfl, HM.out⟩
  case round =>
    clear HM
    obtain ⟨k, L, hk, rfl, hp⟩ := hrel
    by_cases hlt : k < l.length
    · obtain ⟨s, hs⟩ : ∃ s, l[k]? = some s := ⟨_, List.getElem?_eq_getElem hlt⟩
      obtain ⟨b, off, cap', hv, hbl, hc⟩ := Hst.out wr hp.below k s hs
      simp only [Value.slice.injEq, true_and] at hv
      obtain ⟨rfl, rfl⟩ := hv
      have q0 := hc 0 _ rfl
      rw [Nat.add_zero] at q0
      have q1 := hc 1 _ rfl
      have q2 := hc 2 _ rfl
      have q3 := hc 3 _ rfl
      have HP := Lib.hid hp
      clear hs hc hp
      by_cases hk0 : s.kind = 0
      · have ek : (s.kind == 0) = true := by simpa using hk0
        have hcall := HP.out.alloc s.k
        unfold Rg.val at hcall
        clear hk0 q2 q3
        go_wp2_with fail
        refine hcall.mono ?_
        rintro e w2 ⟨rfl, hp2, -⟩
        have HP2 := Lib.hid hp2
        clear hcall hp2 q0 q1
        go_wp2_with fail
        go_roundw
        case rel => exact ⟨k + 1, _, by omega, by go_num, HP2.out⟩
        case measure => simp [intOf]; omega
      · have ek : (s.kind == 0) = false := by simpa using hk0
        by_cases hk1 : s.kind = 1
        · have ek1 : (s.kind == 1) = true := by simpa using hk1
          have hcall := HP.out.take s.r
          unfold Rg.val at hcall
          clear hk0 hk1 q1
          go_wp2_with fail
          refine hcall.mono ?_
          rintro e w2 ⟨rfl, hp2, -⟩
          have HP2 := Lib.hid hp2
          clear hcall hp2 q0 q2 q3
          go_wp2_with fail
          go_roundw
          case rel => exact ⟨k + 1, _, by omega, by go_num, HP2.out⟩
          case measure => simp [intOf]; omega
        · have ek1 : (s.kind == 1) = false := by simpa using hk1
          by_cases hk2 : s.kind = 2
          · have ek2 : (s.kind == 2) = true := by simpa using hk2
            have hcall := HP.out.give s.r
            unfold Rg.val at hcall
            clear hk0 hk1 hk2 q1
            go_wp2_with fail
            refine hcall.mono ?_
            rintro e w2 ⟨rfl, hp2, -⟩
            have HP2 := Lib.hid hp2
            clear hcall hp2 q0 q2 q3
            go_wp2_with fail
            go_roundw
            case rel => exact ⟨k + 1, _, by omega, by go_num, HP2.out⟩
            case measure => simp [intOf]; omega
          · have ek2 : (s.kind == 2) = false := by simpa using hk2
            clear hk0 hk1 hk2 q1 q2 q3
            go_wp2_with fail
            go_roundw
            case rel => exact ⟨k + 1, L, by omega, by go_num, HP.out⟩
            case measure => simp [intOf]; omega
    · have HP := Lib.hid hp
      clear hp Hst
      -- TAIL
      have hls := HP.out.list
      have Hrise := Lib.hid HP.out.rise
      have hll := HP.out.rise.len (by omega)
      go_wp2_with fail
      refine hls.mono ?_
      rintro e w2 ⟨v2, rfl, ho2, hb2⟩
      obtain ⟨a2, cap2, rfl⟩ := RowR.lens (show RowR w2 v2 L from ownsRow_base ho2 fun _ _ => Nat.zero_le _)
      have hG : MS W0 (fun q => (Value.slice a2 L.length cap2).ownBlock = some q) (W0.heap.size + 1) 200 w2 L := HP.out.also hb2 fun q hq => ⟨.inr (ho2.lt q hq).1, (ho2.lt q hq).2⟩
      have hrow : ∀ W, (∀ q, (Value.slice a2 L.length cap2).ownBlock = some q → W.heap[q]? = w2.heap[q]?) → RowR W (.slice a2 L.length cap2) L := fun W h => (show RowR w2 (.slice a2 L.length cap2) L from ownsRow_base ho2 fun _ _ => Nat.zero_le _).keep h
      obtain ⟨G, hGG⟩ : ∃ G, (fun q => (Value.slice a2 L.length cap2).ownBlock = some q) = G := ⟨_, rfl⟩
      have hrow' : ∀ W, (∀ q, G q → W.heap[q]? = w2.heap[q]?) → RowR W (.slice a2 L.length cap2) L := by rw [← hGG]; exact hrow
      rw [hGG] at hG
      have hbox : ∀ W LL, MS W0 G (W0.heap.size + 1) 200 W LL → W.cell? ⟨w.heap.size, 0, none⟩ = some (.int .i64 r.lo) ∧ W.cell? ⟨w.heap.size, 1, none⟩ = some (.int .i64 r.hi) := fun W LL h => (Hbx.out.below h.below).2
      have Hbox := Lib.hid hbox
      have Hrow := Lib.hid hrow'
      have HG := Lib.hid hG
      have HB2 := Lib.hid hb2
      clear hls ho2 hb2 hrow hrow' hGG hbox hG HP Hn
      have htk := HG.out.take r
      obtain ⟨x0, x1⟩ := Hbox.out _ _ HG.out
      have hbt := back_take (n := 200) (r := r) Hrise.out
      have hmo := takeE_more (n := 200) (r := r) (L := L)
      generalize takeE 200 L r = te at htk hbt hmo
      unfold Rg.val at htk
      have Hbt := Lib.hid hbt
      have Hmo := Lib.hid hmo
      clear hbt hmo
      go_wp2_with fail
      refine htk.mono ?_
      rintro e w3 ⟨rfl, hp3, hk3⟩
      have HP3 := Lib.hid hp3
      have HK3 := Lib.hid hk3
      clear htk hp3 hk3 x0 x1
      go_upto_if 59 with (fail)
      go_cut [] from 60 (fun W => MS W0 G (W0.heap.size + 1) 200 W L ∧ ∀ q, G q → W.heap[q]? = w2.heap[q]?)
      case first =>
        by_cases h0 : te = 0
        · subst h0
          obtain ⟨b1, b2, b3, b4, b5, b6⟩ := Hbt.out rfl
          have htk := HP3.out.take r
          have hgv := fun W (h : MS W0 G (W0.heap.size + 1) 200 W (takeS 200 L r)) => h.give r
          have hgv2 := fun W (h : MS W0 G (W0.heap.size + 1) 200 W L) => h.give r
          rw [b1, b2] at htk
          rw [b3, b4] at hgv
          rw [b5, b6] at hgv2
          unfold Rg.val at htk hgv hgv2
          have Hgv := Lib.hid hgv
          have Hgv2 := Lib.hid hgv2
          obtain ⟨x0, x1⟩ := Hbox.out _ _ HP3.out
          clear b1 b2 b3 b4 b5 b6 hgv hgv2
          go_wp2_with fail
          refine htk.mono ?_
          rintro e w4 ⟨rfl, hp4, hk4⟩
          have HP4 := Lib.hid hp4
          have HK4 := Lib.hid (fun q hq => (hk4 q hq).trans (HK3.out q hq))
          have hg4 := Hgv.out _ hp4
          obtain ⟨y0, y1⟩ := Hbox.out _ _ hp4
          clear htk hp4 hk4 x0 x1
          go_wp2_with fail
          refine hg4.mono ?_
          rintro e w5 ⟨rfl, hp5, hk5⟩
          have HK5 := Lib.hid (fun q hq => (hk5 q hq).trans (HK4.out q hq))
          have hg5 := Hgv2.out _ hp5
          obtain ⟨x0, x1⟩ := Hbox.out _ _ hp5
          clear hg4 hp5 hk5 y0 y1
          go_wp2_with fail
          refine hg5.mono ?_
          rintro e w6 ⟨rfl, hp6, hk6⟩
          have HP6 := Lib.hid hp6
          have HK6 := Lib.hid (fun q hq => (hk6 q hq).trans (HK5.out q hq))
          clear hg5 hp6 hk6 x0 x1
          go_wp2_with fail
          go_meet
          exact ⟨HP6.out, HK6.out⟩
        · have e0 : (te == 0) = false := by simpa using h0
          have e1 := Hmo.out h0
          rw [e1] at HP3
          clear h0 e1
          go_wp2_with fail
          go_meet
          exact ⟨HP3.out, HK3.out⟩
      case rest =>
        obtain ⟨hpC, hkC⟩ := hcut
        have HKC := Lib.hid hkC
        have HPC := Lib.hid hpC
        have hal := hpC.alloc kk
        have hat := alloc_take (n := 200) (k := kk) Hrise.out
        have hmo := alloc_more (k := kk) (L := L)
        have hbk := back_take (n := 200) (r := allocR kk L) Hrise.out
        generalize hAE : allocE kk L = ae at hal hat hmo
        generalize hAR : allocR kk L = a at hal hat hbk
        generalize hAL : allocL kk L = L1 at hal hat hmo
        have Hat := Lib.hid hat
        have Hmo2 := Lib.hid hmo
        have Hbk := Lib.hid hbk
        unfold Rg.val at hal
        clear hat hmo hbk hpC hkC hAE hAR hAL
        go_wp2_with fail
        refine hal.mono ?_
        rintro e w7 ⟨rfl, hp7, hk7⟩
        have HP7 := Lib.hid hp7
        have HK7 := Lib.hid (fun q hq => (hk7 q hq).trans (HKC.out q hq))
        clear hal hp7 hk7
        go_upto_if 83 with (fail)
        have hbA : Below w7.heap.size w7 (w7.alloc (.cells #[.int .i64 a.lo, .int .i64 a.hi] 27)) := (Below.refl _ _).alloc (Nat.le_refl _) _
        have hbx8 : RBox (w7.alloc (.cells #[.int .i64 a.lo, .int .i64 a.hi] 27)) w7.heap.size a := RBox.made w7 a _
        have hp8 : MS W0 (fun q => G q ∨ q = w7.heap.size) (W0.heap.size + 1) 200 (w7.alloc (.cells #[.int .i64 a.lo, .int .i64 a.hi] 27)) L1 := HP7.out.also hbA fun q hq => by
          rcases hq with hq | rfl
          · exact ⟨.inl hq, Nat.lt_of_lt_of_le (HP7.out.fl hq) hbA.size⟩
          · exact ⟨.inr (Nat.le_refl _), hbx8.1⟩
        have hk8 : ∀ q, G q → (w7.alloc (.cells #[.int .i64 a.lo, .int .i64 a.hi] 27)).heap[q]? = w2.heap[q]? := fun q hq => (hbA.block q (HP7.out.fl hq)).trans (HK7.out q hq)
        generalize (w7.alloc (.cells #[.int .i64 a.lo, .int .i64 a.hi] 27)) = w8 at hbx8 hp8 hk8 ⊢
        generalize w7.heap.size = u at hbx8 hp8 ⊢
        have hxb : ∀ W : World, (∀ q, (G q ∨ q = u) → W.heap[q]? = w8.heap[q]?) → W.cell? ⟨u, 0, none⟩ = some (.int .i64 a.lo) ∧ W.cell? ⟨u, 1, none⟩ = some (.int .i64 a.hi) := fun W h => ⟨(World.cell?_of_block (a := ⟨u, 0, none⟩) (h u (.inr rfl))).trans hbx8.2.1, (World.cell?_of_block (a := ⟨u, 1, none⟩) (h u (.inr rfl))).trans hbx8.2.2⟩
        have Hxb := Lib.hid hxb
        have HP8 := Lib.hid hp8
        have HK8 := Lib.hid hk8
        clear hbA hbx8 hp8 hk8 hxb HP7 HK7 HKC HPC
        go_cut [] from 84 (fun W => MS W0 (fun q => G q ∨ q = u) (W0.heap.size + 1) 200 W L ∧ ∀ q, G q → W.heap[q]? = w2.heap[q]?)
        case first =>
          by_cases h0 : ae = 0
          · subst h0
            obtain ⟨b1, b2, b3, b4, b5⟩ := Hat.out rfl
            subst b2
            obtain ⟨c1, c2, c3, c4, -, -⟩ := Hbk.out b1
            have htk := HP8.out.take a
            have hgv := fun W (h : MS W0 (fun q => G q ∨ q = u) (W0.heap.size + 1) 200 W (takeS 200 L a)) => h.give a
            rw [c1, c2] at htk
            rw [c3, c4] at hgv
            unfold Rg.val at htk hgv
            have Hgv := Lib.hid hgv
            obtain ⟨x0, x1⟩ := Hxb.out w8 (fun _ _ => rfl)
            have hwr : IntKind.i64.wrap (a.hi - a.lo) = kk := by have := mayE_zero (takeE_zero Hrise.out b1).1; rw [IntKind.wrap_i64]; omega
            clear b1 b3 b4 b5 c1 c2 c3 c4 hgv
            go_wp2_with fail
            refine htk.mono ?_
            rintro e w9 ⟨rfl, hp9, hk9⟩
            have HK9 := Lib.hid hk9
            have hg9 := Hgv.out _ hp9
            obtain ⟨y0, y1⟩ := Hxb.out _ hk9
            clear htk hp9 hk9 x0 x1
            go_wp2_with fail
            refine hg9.mono ?_
            rintro e w10 ⟨rfl, hp10, hk10⟩
            have HP10 := Lib.hid hp10
            have HK10 := Lib.hid (fun q (hq : G q) => (hk10 q (.inl hq)).trans ((HK9.out q (.inl hq)).trans (HK8.out q hq)))
            clear hg9 hp10 hk10 y0 y1
            go_wp2_with fail
            go_meet
            exact ⟨HP10.out, HK10.out⟩
          · have e0 : (ae == 0) = false := by simpa using h0
            have e1 := Hmo2.out h0
            rw [e1] at HP8
            clear h0 e1
            go_wp2_with fail
            go_meet
            exact ⟨HP8.out, HK8.out⟩
        case rest =>
          obtain ⟨hpD, hkD⟩ := hcut
          have hls := hpD.list
          have hbD := hpD.below
          have Hrow2 := Lib.hid (Hrow.out _ hkD)
          have HBD := Lib.hid (HbW.out.trans (hbD.mono HbW.out.size))
          clear hpD hkD hbD
          go_wp2_with fail
          refine hls.mono ?_
          rintro e w11 ⟨v11, rfl, ho11, hb11⟩
          have hsa := same_any (show RowR w11 v11 L from ownsRow_base ho11 fun _ _ => Nat.zero_le _) (Hrow2.out.below hb11) (by omega)
          have HB11 := Lib.hid (HBD.out.trans (hb11.mono HBD.out.size))
          clear hls ho11 hb11
          go_wp2_with fail
          refine hsa.mono ?_
          rintro e w12 ⟨rfl, hb12⟩
          have hsh := shown_any (w := w12)
          have HB12 := Lib.hid (HB11.out.trans (hb12.mono HB11.out.size))
          clear hsa hb12
          go_wp2_with fail
          refine hsh.mono ?_
          rintro e w13 ⟨rfl, hb13⟩
          have HF := Lib.hid (HB12.out.trans (hb13.mono HB12.out.size))
          clear hsh hb13
          go_wp2_with fail
          go_ret
          exact ⟨rfl, HF.out⟩
end Go.Proofs.Ytajbodfdohhhoaa
