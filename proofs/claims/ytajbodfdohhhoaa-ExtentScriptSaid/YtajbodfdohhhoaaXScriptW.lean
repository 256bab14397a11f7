/- ExtentScript: its walk. -/
import Derived.Test.YtajbodfdohhhoaaRxS
import Derived.Deep.CutBlock
namespace Go.Proofs.Ytajbodfdohhhoaa
open Go.RowKit
set_option maxRecDepth 100000 in
set_option maxHeartbeats 8000000 in
theorem extentscript_any (n : Int) {v : Value} {l : List Stp} {w : World} (ha : ArgRow w v 4 (l.map Stp.cells)) (z : Int) :
    Calls Try.prog 7 #[.int .i64 n, v, .int .i64 z] w fun e w' => e = .returned (.bool true) ∧ Below w.heap.size w w' := by
  obtain ⟨i0, hi0, hz0, hz1, hz2⟩ := info_parts Try.infoRg
  have Hi := Lib.hid hi0
  have Hz := Lib.hid hz0
  have Hz1 := Lib.hid hz1
  have Hz2 := Lib.hid hz2
  clear hi0 hz0 hz1 hz2
  obtain ⟨base, cap, rfl, hm⟩ := ha.slice
  unfold maxLen at hm
  have hst : ∀ wr, Below w.heap.size w wr → ∀ k s, l[k]? = some s → _ := fun wr hb k s hk => (ha.below hb).step (k := k) (s := s) hk
  have Hst := Lib.hid hst
  clear hst ha
  obtain ⟨N, hN⟩ := Int.eq_ofNat_of_zero_le (show 0 ≤ nOf n by unfold nOf; omega)
  have HN := Lib.hid hN
  have hn := MS.new (wr := w) w (fun _ => False) (Below.refl _ _) (fun _ h => h.elim) n
  have Hn := Lib.hid hn
  clear hn hN
  by_cases hlen : (100 : Int) < (l.length : Int)
  · have e1 : decide ((100 : Int) < (l.length : Int)) = true := by simpa using hlen
    go_enter Try.func7, Try.ntmps7
    go_wp2_with fail
    go_ret
    exact ⟨rfl, Below.refl _ _⟩
  have e1 : decide ((100 : Int) < (l.length : Int)) = false := by simpa using hlen
  go_enter Try.func7, Try.ntmps7
  go_wp2_with fail
  refine Hn.out.mono ?_
  rintro e w1 ⟨rfl, hM, -⟩
  have HM := Lib.hid hM
  clear hM Hn
  have hrn := rnew_any (w := w1) n
  go_wp2_with fail
  refine hrn.mono ?_
  rintro e w2 ⟨rfl, hR, hb2⟩
  rw [show (nOf n).toNat = N by rw [HN.out]; omega] at hR
  have hX := XS.made HN.out HM.out hR hb2 (Nat.le_succ _) (Nat.le_refl _) hb2.size
  have hM2 := (HM.out.more hb2)
  rw [HN.out] at hM2
  have hfr := hM2.free
  have hrf := fun W (hb : Below w2.heap.size w2 W) => rfree_any (w := W) (L := [⟨0, (N : Int)⟩]) ⟨(hR.below hb).same (f' := fun j => isIn [⟨0, (N : Int)⟩] j) (fun j hj => by
    symm
    exact isIn_one (L := [⟨0, (N : Int)⟩]) (r := ⟨0, (N : Int)⟩) (by simp) (by show (0 : Int) ≤ j; omega) (by show (j : Int) < N; omega)), by have := hR.n1; exact ⟨by show (-1 : Int) < 0; omega, by show (0 : Int) < N; omega, Int.le_refl _, trivial⟩⟩
  have hXb := fun W (hb : Below w2.heap.size w2 W) => XS.made HN.out HM.out (hR.below hb) (hb2.trans (hb.mono hb2.size)) (Nat.le_succ _) (Nat.le_refl _) (Nat.le_trans hb2.size hb.size)
  have Hrf := Lib.hid hrf
  have HXb := Lib.hid hXb
  generalize w1.heap.size + 1 = c at Hrf HXb ⊢
  generalize w1.heap.size = g at Hrf HXb ⊢
  generalize sumR [⟨0, (N : Int)⟩] = su at hfr Hrf
  clear hrn hR hb2 hX hM2 hrf hXb HM HN
  go_wp2_with fail
  refine hfr.mono ?_
  rintro e w3 ⟨rfl, hb3⟩
  have hrf3 := Hrf.out _ hb3
  have HX3 := Lib.hid (HXb.out _ hb3)
  clear hfr hb3 Hrf HXb
  go_wp2_with fail
  refine hrf3.mono ?_
  rintro e w4 ⟨rfl, rfl⟩
  clear hrf3 e1
  go_wp2_with fail
  go_loopw [9, 10, 11, 12, 13, 14, 15] (fun hv i _ _ _ _ _ wr => ∃ (k : Nat) (L H : List Rg), k ≤ l.length ∧ i = .int .i64 (k : Int) ∧ XS w (fun _ => False) (w.heap.size + 1) c g N wr hv L L H ∧ H.length ≤ k) (fun _ i _ _ _ _ _ _ => l.length - (intOf i).toNat)
  case atStart => exact ⟨0, _, _, Nat.zero_le _, rfl, HX3.out, Nat.zero_le _⟩
  case round =>
    clear HX3
    obtain ⟨k, L, H, hk, rfl, hp, hHk⟩ := hrel
    by_cases hlt : k < l.length
    · obtain ⟨s, hs⟩ : ∃ s, l[k]? = some s := ⟨_, List.getElem?_eq_getElem hlt⟩
      obtain ⟨b, off, cap', hv, hbl, hc⟩ := Hst.out wr hp.ms.below k s hs
      simp only [Value.slice.injEq, true_and] at hv
      obtain ⟨rfl, rfl⟩ := hv
      have q0 := hc 0 _ rfl
      rw [Nat.add_zero] at q0
      have q1 := hc 1 _ rfl
      have q2 := hc 2 _ rfl
      have q3 := hc 3 _ rfl
      have hxo := XO.made hp s 29
      rw [show (.cells s.cells.toArray 29 : Obj) = .cells #[.int .i64 s.kind, .int .i64 s.k, .int .i64 s.r.lo, .int .i64 s.r.hi] 29 from rfl] at hxo
      obtain ⟨a4, cap4, rfl⟩ := hp.rowR.lens
      have HXO := Lib.hid hxo
      clear hs hc hp hxo
      have hs3 : ∀ W LM LR, XO w wr.heap.size s (w.heap.size + 1) c g N W (.slice a4 H.length cap4) LM LR H → (W.cell? ⟨wr.heap.size, 0, none⟩ = some (.int .i64 s.kind) ∧ W.cell? ⟨wr.heap.size, 1, none⟩ = some (.int .i64 s.k) ∧ W.cell? ⟨wr.heap.size, 2, none⟩ = some (.int .i64 s.r.lo) ∧ W.cell? ⟨wr.heap.size, 3, none⟩ = some (.int .i64 s.r.hi)) := fun W LM LR h => ⟨h.2.2 0 _ rfl, h.2.2 1 _ rfl, h.2.2 2 _ rfl, h.2.2 3 _ rfl⟩
      have HS := Lib.hid hs3
      clear hs3
      go_upto_block 2 with (fail)
      clear q0 q1 q2 q3 hbl
      generalize wr.alloc (.cells #[.int .i64 s.kind, .int .i64 s.k, .int .i64 s.r.lo, .int .i64 s.r.hi] 29) = W1 at HXO ⊢
      generalize wr.heap.size = u at HXO HS ⊢
      go_cut [9, 12, 13, 14, 15] from 45 to 125 (fun hv _ _ _ _ W => ∃ (L H : List Rg), XS w (fun _ => False) (w.heap.size + 1) c g N W hv L L H ∧ H.length ≤ k + 1)
      case first =>
        obtain ⟨z0, z1, z2, z3⟩ := HS.out _ _ _ HXO.out
        by_cases hk0 : s.kind = 0
        · have ek : (s.kind == 0) = true := by simpa using hk0
          have hx := HXO.out.alloc s.k
          have hy := fun W (h : XO w u s (w.heap.size + 1) c g N W (.slice a4 H.length cap4) (allocL s.k L) L H) => h.ralloc s.k
          generalize allocE s.k L = ae at hx hy
          generalize allocR s.k L = a at hx hy
          generalize allocL s.k L = L1 at hx hy
          unfold Rg.val at hx hy
          have Hy := Lib.hid hy
          clear hy hk0
          go_wp2_with fail
          refine hx.mono ?_
          rintro e w2 ⟨rfl, hp2⟩
          have hbA : Below w2.heap.size w2 (w2.alloc (.cells #[.int .i64 a.lo, .int .i64 a.hi] 27)) := (Below.refl _ _).alloc (Nat.le_refl _) _
          have hbx3 : RBox (w2.alloc (.cells #[.int .i64 a.lo, .int .i64 a.hi] 27)) w2.heap.size a := RBox.made w2 a _
          have hp3 := hp2.more hbA
          have hug : ¬ w2.heap.size = g := by have := hp2.1.rm.1.ltg; omega
          have hry := Hy.out _ hp3
          obtain ⟨y0, y1, y2, y3⟩ := HS.out _ _ _ hp3
          have hul : u < w2.heap.size := hp2.2.1
          clear hx hp2 hbA z0 z1 z2 z3
          go_wp2_with fail
          generalize (w2.alloc (.cells #[.int .i64 a.lo, .int .i64 a.hi] 27)) = W3 at hbx3 hp3 hry y0 y1 y2 y3 ⊢
          generalize w2.heap.size = ua at hbx3 hug hul ⊢
          refine hry.mono ?_
          rintro e w4 ⟨rfl, hp4, hm4⟩
          have hbx4 := hbx3.keep (hm4.block ua hbx3.1 hug) hm4.size
          have hbB : Below w4.heap.size w4 (w4.alloc (.cells #[.int .i64 a.lo, .int .i64 a.hi] 27)) := (Below.refl _ _).alloc (Nat.le_refl _) _
          have hbx5 := hbx4.below hbB
          have hby5 : RBox (w4.alloc (.cells #[.int .i64 a.lo, .int .i64 a.hi] 27)) w4.heap.size a := RBox.made w4 a _
          have hp5 := hp4.more hbB
          obtain ⟨-, x0, x1⟩ := hbx5
          obtain ⟨-, v0, v1⟩ := hby5
          have HP5 := Lib.hid hp5.less
          clear hry hp3 hp4 hm4 hbx3 hbx4 hbB hp5 y0 y1 y2 y3
          by_cases h0 : ae = 0
          · subst h0
            have hw5 : (w4.alloc (.cells #[.int .i64 a.lo, .int .i64 a.hi] 27)).heap.size = w4.heap.size + 1 := by simp
            have hbC : Below (w4.alloc (.cells #[.int .i64 a.lo, .int .i64 a.hi] 27)).heap.size (w4.alloc (.cells #[.int .i64 a.lo, .int .i64 a.hi] 27)) ((w4.alloc (.cells #[.int .i64 a.lo, .int .i64 a.hi] 27)).alloc (.cells #[.int .i64 a.lo, .int .i64 a.hi] 27)) := (Below.refl _ _).alloc (Nat.le_refl _) _
            have hs6 := HP5.out.more hbC
            have hcl : ∀ j u, a.cells[j]? = some u → ((w4.alloc (.cells #[.int .i64 a.lo, .int .i64 a.hi] 27)).alloc (.cells #[.int .i64 a.lo, .int .i64 a.hi] 27)).cell? ((⟨w4.heap.size + 1, 0, none⟩ : Addr).add j) = some u := fun j u hj => by
              rw [Addr.add_mid, Nat.zero_add, ← hw5, World.cell?_alloc_new]
              simpa [Rg.cells] using hj
            have hbs : w.heap.size ≤ ((w4.alloc (.cells #[.int .i64 a.lo, .int .i64 a.hi] 27)).alloc (.cells #[.int .i64 a.lo, .int .i64 a.hi] 27)).heap.size := hs6.ms.below.size
            have hml : H.length + 1 ≤ maxLen := by unfold maxLen; omega
            have Hcl := Lib.hid hcl
            have HS6 := Lib.hid hs6
            have O1 := one_rcells a
            clear hbC hs6 hcl hw5
            go_wp2_with (refine wpList_append_own_at _ rfl (.tmp 71) (.tmp 73) 25 rfl w.heap.size 27 i0 _ 2 16 Try.underlying25 Hi.out Hz.out Hz1.out Hz2.out rfl (by decide) _ H.length (rrows H) rfl HS6.out.row ⟨w4.heap.size + 1, 0, none⟩ 1 1 a.cells rfl rfl Hcl.out O1 hml (by omega) hbs ?_)
            intro v7 w7 hown7 hgrow hnn hor
            have hs7 : XS w (fun _ => False) (w.heap.size + 1) c g N w7 v7 L1 L1 (H ++ [a]) := HS6.out.grown hgrow (by rw [List.length_append, rrows_app]; exact hown7) (by simpa using hor)
            have HS7 := Lib.hid hs7
            clear hown7 hgrow hor hs7 hnn x0 x1 v0 v1
            go_wp2_with fail
            go_meet
            exact ⟨_, _, HS7.out, by simp; omega⟩
          · have e0 : (ae == 0) = false := by simpa using h0
            clear h0
            go_wp2_with fail
            go_meet
            exact ⟨_, _, HP5.out, by omega⟩
        · have ek : (s.kind == 0) = false := by simpa using hk0
          by_cases hk1 : s.kind = 1
          · have ek1 : (s.kind == 1) = true := by simpa using hk1
            have hx := fun W (h : XO w u s (w.heap.size + 1) c g N W (.slice a4 H.length cap4) L L H) => h.take s.r
            have hy := fun W (h : XO w u s (w.heap.size + 1) c g N W (.slice a4 H.length cap4) (takeS N L s.r) L H) => h.rtake s.r
            generalize takeE N L s.r = ee at hx hy
            generalize takeS N L s.r = L2 at hx hy
            unfold Rg.val at hx hy
            have Hx := Lib.hid hx
            have Hy := Lib.hid hy
            have hp0 := HXO.out
            have hpd := HXO.out.drew
            have hz0 := HS.out _ _ _ hpd
            clear hx hy hk0 hk1
            go_wp2_with fail
            go_region_held3 (fun w' => w'.cell? ⟨u, 0, none⟩ = some (.int .i64 s.kind) ∧ w'.cell? ⟨u, 1, none⟩ = some (.int .i64 s.k) ∧ w'.cell? ⟨u, 2, none⟩ = some (.int .i64 s.r.lo) ∧ w'.cell? ⟨u, 3, none⟩ = some (.int .i64 s.r.hi)) (first | exact hz0 | exact HS.out _ _ _ hp2 | exact HS.out _ _ _ hp3)
              ((first
                | (go_at_call 14
                   refine (Hx.out _ hpd).mono ?_
                   rintro e w2 ⟨rfl, hp2⟩)
                | (go_at_call 21
                   refine (Hy.out _ hp2).mono ?_
                   rintro e w3 ⟨rfl, hp3⟩)))
            have HQ := Lib.hid hp3.less
            clear hp3 hp2 hz0 hpd hp0
            go_wp2_with fail
            go_meet
            exact ⟨_, _, HQ.out, by omega⟩
          · have ek1 : (s.kind == 1) = false := by simpa using hk1
            by_cases hk2 : s.kind = 2
            · have ek2 : (s.kind == 2) = true := by simpa using hk2
              have hx := fun W (h : XO w u s (w.heap.size + 1) c g N W (.slice a4 H.length cap4) L L H) => h.give s.r
              have hy := fun W (h : XO w u s (w.heap.size + 1) c g N W (.slice a4 H.length cap4) (giveS N L s.r) L H) => h.rgive s.r
              generalize giveE N L s.r = ee at hx hy
              generalize giveS N L s.r = L2 at hx hy
              unfold Rg.val at hx hy
              have Hx := Lib.hid hx
              have Hy := Lib.hid hy
              have hp0 := HXO.out
              have hpd := HXO.out.drew
              have hz0 := HS.out _ _ _ hpd
              clear hx hy hk0 hk1 hk2
              go_wp2_with fail
              go_region_held3 (fun w' => w'.cell? ⟨u, 0, none⟩ = some (.int .i64 s.kind) ∧ w'.cell? ⟨u, 1, none⟩ = some (.int .i64 s.k) ∧ w'.cell? ⟨u, 2, none⟩ = some (.int .i64 s.r.lo) ∧ w'.cell? ⟨u, 3, none⟩ = some (.int .i64 s.r.hi)) (first | exact hz0 | exact HS.out _ _ _ hp2 | exact HS.out _ _ _ hp3)
                ((first
                  | (go_at_call 11
                     refine (Hx.out _ hpd).mono ?_
                     rintro e w2 ⟨rfl, hp2⟩)
                  | (go_at_call 22
                     refine (Hy.out _ hp2).mono ?_
                     rintro e w3 ⟨rfl, hp3⟩)))
              have HQ := Lib.hid hp3.less
              clear hp3 hp2 hz0 hpd hp0
              go_wp2_with fail
              go_meet
              exact ⟨_, _, HQ.out, by omega⟩
            · have ek2 : (s.kind == 2) = false := by simpa using hk2
              by_cases hk3 : s.kind = 3
              · have ek3 : (s.kind == 3) = true := by simpa using hk3
                by_cases hK : 0 ≤ s.k ∧ s.k < (H.length : Int)
                · obtain ⟨hK0, hK1⟩ := hK
                  obtain ⟨K, hKe⟩ := Int.eq_ofNat_of_zero_le hK0
                  rw [hKe] at HS z1
                  have hKl : K < H.length := by omega
                  obtain ⟨a, haK⟩ : ∃ a, H[K]? = some a := ⟨_, List.getElem?_eq_getElem hKl⟩
                  have f1 : decide ((0 : Int) ≤ (K : Int)) = true := by simp
                  have f2 : decide ((K : Int) < (H.length : Int)) = true := by simpa using hKl
                  have f3 : decide (K < H.length) = true := by simpa using hKl
                  obtain ⟨gh, ch, hv, -, hcl, hcc⟩ := HXO.out.1.rowR.at haK
                  simp only [Value.slice.injEq, true_and] at hv
                  obtain ⟨rfl, rfl⟩ := hv
                  have hgc : ∀ W LM LR, XO w u s (w.heap.size + 1) c g N W (.slice (some ⟨gh, 0, none⟩) H.length cap4) LM LR H → (W.cell? ⟨gh, K * 2, none⟩ = some (.int .i64 a.lo) ∧ W.cell? ⟨gh, K * 2 + 1, none⟩ = some (.int .i64 a.hi) ∧ W.cell? ⟨u, 1, none⟩ = some (.int .i64 (K : Int))) := fun W LM LR h => by
                    obtain ⟨gh', ch, hv, -, hcl, hcc⟩ := h.1.rowR.at haK
                    simp only [Value.slice.injEq, Option.some.injEq, Addr.mk.injEq, and_true, true_and] at hv
                    obtain ⟨rfl, rfl⟩ := hv
                    exact ⟨hcc 0 _ rfl, hcc 1 _ rfl, (HS.out _ _ _ h).2.1⟩
                  have hKI : (K : Int) < (H.length : Int) := by omega
                  have hx := fun W (h : XO w u s (w.heap.size + 1) c g N W (.slice (some ⟨gh, 0, none⟩) H.length cap4) L L H) => h.give a
                  have hy := fun W (h : XO w u s (w.heap.size + 1) c g N W (.slice (some ⟨gh, 0, none⟩) H.length cap4) (giveS N L a) L H) => h.rgive a
                  generalize giveE N L a = ee at hx hy
                  generalize giveS N L a = L2 at hx hy
                  unfold Rg.val at hx hy
                  have Hx := Lib.hid hx
                  have Hy := Lib.hid hy
                  have HG := Lib.hid hgc
                  have hpd := HXO.out.drew
                  have hz0 := HG.out _ _ _ hpd
                  clear hx hy hk0 hk1 hk2 hk3 hK0 hK1 hKe haK hcc hgc
                  go_wp2_with fail
                  go_region_held3 (fun w' => w'.cell? ⟨gh, K * 2, none⟩ = some (.int .i64 a.lo) ∧ w'.cell? ⟨gh, K * 2 + 1, none⟩ = some (.int .i64 a.hi) ∧ w'.cell? ⟨u, 1, none⟩ = some (.int .i64 (K : Int))) (first | exact hz0 | exact HG.out _ _ _ hp2 | exact HG.out _ _ _ hp3)
                    ((first
                      | (go_at_call 11
                         refine (Hx.out _ hpd).mono ?_
                         rintro e w2 ⟨rfl, hp2⟩)
                      | (go_at_call 22
                         refine (Hy.out _ hp2).mono ?_
                         rintro e w3 ⟨rfl, hp3⟩)))
                  have HQ := Lib.hid hp3.less
                  clear hp3 hp2 hz0 hpd
                  go_wp2_with fail
                  go_meet
                  exact ⟨_, _, HQ.out, by omega⟩
                · have HQ := Lib.hid (fun q => (HXO.out.more (w' := W1.drewN q) ⟨rfl, rfl, rfl, Nat.le_refl _, fun _ _ => rfl⟩).less)
                  by_cases hK0 : 0 ≤ s.k
                  · have f1 : decide ((0 : Int) ≤ s.k) = true := by simpa using hK0
                    have f2 : decide (s.k < (H.length : Int)) = false := by simp; omega
                    clear hk0 hk1 hk2 hk3 hK hK0
                    go_wp2_with fail
                    go_quiet (fail)
                    go_wp2_with fail
                    go_meet
                    exact ⟨_, _, HQ.out _, by omega⟩
                  · have f1 : decide ((0 : Int) ≤ s.k) = false := by simpa using hK0
                    clear hk0 hk1 hk2 hk3 hK hK0
                    go_wp2_with fail
                    go_quiet (fail)
                    go_wp2_with fail
                    go_meet
                    exact ⟨_, _, HQ.out _, by omega⟩
              · have ek3 : (s.kind == 3) = false := by simpa using hk3
                have HQ := Lib.hid HXO.out.less
                clear hk0 hk1 hk2 hk3
                go_wp2_with fail
                go_meet
                exact ⟨_, _, HQ.out, by omega⟩
      case rest =>
        obtain ⟨L2, H2, hp2, hH2⟩ := hcut
        have hl1 := hp2.ms.rise.len (by have := hp2.ms.n1; omega)
        have hl2 := hp2.ms.n2
        have HL := Lib.hid (show L2.length ≤ 10000 by omega)
        have hls := hp2.ms.list
        have HP2 := Lib.hid hp2
        clear hp2 hl1 hl2 HXO HS
        go_wp2_with fail
        refine hls.mono ?_
        rintro e w5 ⟨v5, rfl, ho5, hb5⟩
        have hp5 := HP2.out.more hb5
        have hrl := rlist_any hp5.rm
        have HP5 := Lib.hid hp5
        have HR5 := Lib.hid (show RowR w5 v5 L2 from ownsRow_base ho5 fun _ _ => Nat.zero_le _)
        clear hls ho5 hb5 hp5
        go_wp2_with fail
        refine hrl.mono ?_
        rintro e w6 ⟨v6, rfl, ho6, hb6⟩
        have hsm := same_any (HR5.out.below hb6) (show RowR w6 v6 L2 from ownsRow_base ho6 fun _ _ => Nat.zero_le _) HL.out
        have HP6 := Lib.hid (HP5.out.more hb6)
        clear hrl ho6 hb6
        go_wp2_with fail
        refine hsm.mono ?_
        rintro e w7 ⟨rfl, hb7⟩
        have hp7 := HP6.out.more hb7
        have hfr := hp7.ms.free
        have HP7 := Lib.hid hp7
        generalize hsu : sumR L2 = su2 at hfr
        have HSU := Lib.hid hsu
        clear hsm hb7 hp7 hsu
        go_wp2_with fail
        refine hfr.mono ?_
        rintro e w8 ⟨rfl, hb8⟩
        have hp8 := HP7.out.more hb8
        have hrf := rfree_any hp8.rm
        rw [HSU.out] at hrf
        have HP8 := Lib.hid hp8
        clear hfr hb8 hp8
        go_wp2_with fail
        refine hrf.mono ?_
        rintro e w9 ⟨rfl, rfl⟩
        have his := HP8.out.ms.is z
        generalize hin : isIn L2 z = x at his
        have HIN := Lib.hid hin
        clear hrf hin
        go_wp2_with fail
        refine his.mono ?_
        rintro e w10 ⟨rfl, hb10⟩
        have hp10 := HP8.out.more hb10
        have hri := ris_any hp10.rm z
        rw [HIN.out] at hri
        have HP10 := Lib.hid hp10
        clear his hb10 hp10
        go_wp2_with fail
        refine hri.mono ?_
        rintro e w11 ⟨rfl, hb11⟩
        have HP11 := Lib.hid (HP10.out.more hb11)
        clear hri hb11
        go_wp2_with fail
        go_roundw
        case rel => exact ⟨k + 1, L2, H2, by omega, by go_num, HP11.out, hH2⟩
        case measure => simp [intOf]; omega
    · have HB := Lib.hid hp.ms.below
      clear hp Hst
      go_wp2_with fail
      have hsh := shown_any (w := wr)
      refine hsh.mono ?_
      rintro e w4 ⟨rfl, hb4⟩
      have HF := Lib.hid (HB.out.trans (hb4.mono HB.out.size))
      clear hsh hb4
      go_wp2_with fail
      go_ret
      exact ⟨rfl, HF.out⟩
end Go.Proofs.Ytajbodfdohhhoaa
