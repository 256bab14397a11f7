/- ExtentList: its walk. The loop of the calls is printed by gen_ext.py. -/
import Derived.Test.YtajbodfdohhhoaaExtS
namespace Go.Proofs.Ytajbodfdohhhoaa
open Go.RowKit
set_option maxRecDepth 100000 in
set_option maxHeartbeats 8000000 in
theorem extentlist_any {v : Value} {l : List Stp} {w : World} (ha : ArgRow w v 4 (l.map Stp.cells)) :
    Calls Try.prog 8 #[v] w fun e w' => e = .returned (.bool true) ∧ Below w.heap.size w w' := by
  obtain ⟨base, cap, rfl, hm⟩ := ha.slice
  unfold maxLen at hm
  have hst : ∀ wr, Below w.heap.size w wr → ∀ k s, l[k]? = some s → _ := fun wr hb k s hk => (ha.below hb).step (k := k) (s := s) hk
  have Hst := Lib.hid hst
  clear hst ha
  have hn := MS.new (wr := w) w (fun _ => False) (Below.refl _ _) (fun _ h => h.elim) 60
  have Hn := Lib.hid hn
  clear hn
  by_cases hlen : (60 : Int) < (l.length : Int)
  · have e1 : decide ((60 : Int) < (l.length : Int)) = true := by simpa using hlen
    go_enter Try.func8, Try.ntmps8
    go_wp2_with fail
    go_ret
    exact ⟨rfl, Below.refl _ _⟩
  have e1 : decide ((60 : Int) < (l.length : Int)) = false := by simpa using hlen
  go_enter Try.func8, Try.ntmps8
  go_wp2_with fail
  refine Hn.out.mono ?_
  rintro e w1 ⟨rfl, hM, -⟩
  have e0 : nOf 60 = 60 := rfl
  rw [e0] at hM
  have HM := Lib.hid hM
  clear hM e0 e1
  go_wp2_with fail
  go_loopw [4] (fun i wr => ∃ (k : Nat) (L : List Rg), k ≤ l.length ∧ i = .int .i64 (k : Int) ∧ MS w (fun _ => False) (w.heap.size + 1) 60 wr L) (fun i _ => l.length - (intOf i).toNat)
  case atStart => exact ⟨0, _, Nat.zero_le _, rfl, HM.out⟩
  case round =>
    clear HM
    obtain ⟨k, L, hk, rfl, hp⟩ := hrel
    by_cases hlt : k < l.length
    · obtain ⟨s, hs⟩ : ∃ s, l[k]? = some s := ⟨_, List.getElem?_eq_getElem hlt⟩
      obtain ⟨b, off, cap', hv, hbl, hc⟩ := Hst.out wr hp.below k s hs
      simp only [Value.slice.injEq, true_and] at hv
      obtain ⟨rfl, rfl⟩ := hv
      have q0 := hc 0 _ rfl
      rw [Nat.add_zero] at q0
      have q1 := hc 1 _ rfl
      have q2 := hc 2 _ rfl
      have q3 := hc 3 _ rfl
      have HP := Lib.hid hp
      clear hs hc hp
      by_cases hk0 : s.kind = 0
      · have ek : (s.kind == 0) = true := by simpa using hk0
        have hcall := HP.out.alloc s.k
        unfold Rg.val at hcall
        clear hk0 q2 q3
        go_wp2_with fail
        refine hcall.mono ?_
        rintro e w2 ⟨rfl, hp2, -⟩
        have HP2 := Lib.hid hp2
        clear hcall hp2 q0 q1
        go_wp2_with fail
        go_roundw
        case rel => exact ⟨k + 1, _, by omega, by go_num, HP2.out⟩
        case measure => simp [intOf]; omega
      · have ek : (s.kind == 0) = false := by simpa using hk0
        by_cases hk1 : s.kind = 1
        · have ek1 : (s.kind == 1) = true := by simpa using hk1
          have hcall := HP.out.take s.r
          unfold Rg.val at hcall
          clear hk0 hk1 q1
          go_wp2_with fail
          refine hcall.mono ?_
          rintro e w2 ⟨rfl, hp2, -⟩
          have HP2 := Lib.hid hp2
          clear hcall hp2 q0 q2 q3
          go_wp2_with fail
          go_roundw
          case rel => exact ⟨k + 1, _, by omega, by go_num, HP2.out⟩
          case measure => simp [intOf]; omega
        · have ek1 : (s.kind == 1) = false := by simpa using hk1
          by_cases hk2 : s.kind = 2
          · have ek2 : (s.kind == 2) = true := by simpa using hk2
            have hcall := HP.out.give s.r
            unfold Rg.val at hcall
            clear hk0 hk1 hk2 q1
            go_wp2_with fail
            refine hcall.mono ?_
            rintro e w2 ⟨rfl, hp2, -⟩
            have HP2 := Lib.hid hp2
            clear hcall hp2 q0 q2 q3
            go_wp2_with fail
            go_roundw
            case rel => exact ⟨k + 1, _, by omega, by go_num, HP2.out⟩
            case measure => simp [intOf]; omega
          · have ek2 : (s.kind == 2) = false := by simpa using hk2
            clear hk0 hk1 hk2 q1 q2 q3
            go_wp2_with fail
            go_roundw
            case rel => exact ⟨k + 1, L, by omega, by go_num, HP.out⟩
            case measure => simp [intOf]; omega
    · have HP := Lib.hid hp
      clear hp Hst
      -- TAIL
      have hls := HP.out.list
      have hrise := HP.out.rise
      go_wp2_with fail
      refine hls.mono ?_
      rintro e w2 ⟨v2, rfl, ho2, hb2⟩
      have hro : ∀ wx, Below w2.heap.size w2 wx → RowR wx v2 L := fun wx hb => (show RowR w2 v2 L from ownsRow_base ho2 fun _ _ => Nat.zero_le _).below hb
      have hms : ∀ wx, Below w2.heap.size w2 wx → MS w (fun _ => False) (w.heap.size + 1) 60 wx L := fun wx hb => HP.out.more (hb2.trans (hb.mono hb2.size))
      have hsum : ∀ t x, L[t]? = some x → 0 ≤ sumR (L.take t) ∧ sumR (L.take (t + 1)) = sumR (L.take t) + (x.hi - x.lo) ∧ sumR (L.take (t + 1)) ≤ 61 := fun t x hx => by
        have e : L.take (t + 1) = L.take t ++ [x] := by rw [List.take_add_one, hx]; rfl
        have h1 := Rises.sum ((rises_app 60 (L.take t) (L.drop t) (-1)).1 (by rw [List.take_append_drop]; exact hrise)).1 (by omega)
        have h2 := Rises.sum ((rises_app 60 (L.take (t + 1)) (L.drop (t + 1)) (-1)).1 (by rw [List.take_append_drop]; exact hrise)).1 (by omega)
        have h3 : sumR [x] = x.hi - x.lo := by simp [sumR]
        rw [e, sumR_app, h3] at h2 ⊢
        exact ⟨h1.1, rfl, by omega⟩
      have hprev : ∀ t x p, L[t + 1]? = some x → L[t]? = some p → p.hi < x.lo := fun t x p hx hp => by
        have h1 := (rises_app 60 (L.take (t + 1)) (L.drop (t + 1)) (-1)).1 (by rw [List.take_append_drop]; exact hrise)
        have e : L.drop (t + 1) = x :: L.drop (t + 2) := by
          have := List.drop_eq_getElem_cons (List.getElem?_eq_some_iff.1 hx).1
          rw [this, (List.getElem?_eq_some_iff.1 hx).2]
        rw [endOf_take hp, e] at h1
        exact h1.2.1
      obtain ⟨a2, cap2, rfl⟩ := RowR.lens (hro w2 (Below.refl _ _))
      have hln := hrise.len (by omega)
      have Hro := Lib.hid hro
      have Hms := Lib.hid hms
      have Hsum := Lib.hid hsum
      have Hprev := Lib.hid hprev
      have Hrise := Lib.hid hrise
      have hfin : ∀ wx, Below w2.heap.size w2 wx → Below w.heap.size w wx := fun wx hb => HP.out.below.trans ((hb2.trans (hb.mono hb2.size)).mono HP.out.below.size)
      have Hfin := Lib.hid hfin
      clear hls ho2 hb2 hro hms hsum hprev hrise HP hfin
      go_wp2_with fail
      go_loopw [6, 7, 8] (fun c i _ wx => ∃ t : Nat, t ≤ L.length ∧ i = .int .i64 (t : Int) ∧ c = .int .i64 (sumR (L.take t)) ∧ Below w2.heap.size w2 wx) (fun _ i _ _ => L.length - (intOf i).toNat)
      case atStart => exact ⟨0, Nat.zero_le _, rfl, rfl, Below.refl _ _⟩
      case round =>
        obtain ⟨t, ht, rfl, rfl, hb⟩ := hrel
        by_cases hlt2 : t < L.length
        · obtain ⟨x, hx⟩ : ∃ x, L[t]? = some x := ⟨_, List.getElem?_eq_getElem hlt2⟩
          obtain ⟨g, cap3, hv, -, -, hc⟩ := (Hro.out _ hb).at hx
          simp only [Value.slice.injEq, true_and] at hv
          obtain ⟨rfl, rfl⟩ := hv
          have g0 := hc 0 _ rfl
          rw [Nat.add_zero] at g0
          have g1 := hc 1 _ rfl
          obtain ⟨s0, s1, s2⟩ := Hsum.out t x hx
          have hxm := Hrise.out.one (List.mem_of_getElem? hx)
          have f0 : decide (x.hi ≤ x.lo) = false := by simp; omega
          have f1 : decide (x.lo < 0) = false := by simp; omega
          have f2 : decide ((60 : Int) < x.hi) = false := by simp; omega
          have hrow := Hro.out _ hb
          have Hc := Lib.hid (fun wx (hb : Below w2.heap.size w2 wx) => ((Hro.out _ hb).at hx))
          have Hin := Lib.hid (fun i (h1 : x.lo ≤ i) (h2 : i < x.hi) => isIn_one (L := L) (i := i) (List.mem_of_getElem? hx) h1 h2)
          have HB := Lib.hid hb
          generalize sumR (L.take t) = S at s0 s1 ⊢
          rw [s1] at s2
          have S1 := Lib.hid s1
          clear hc hb s1
          go_upto_region 19 with (fail)
          go_cut [103] from 53 to 123 (fun s103 W => s103 = .bool false ∧ ∃ q, W = wr.drewN q)
          case first =>
            by_cases ht0 : t = 0
            · have f3 : decide (0 < t) = false := by simp; omega
              clear ht0
              go_quiet (fail)
              go_wp2_with fail
              go_meet
              exact ⟨rfl, nq, rfl⟩
            · have f3 : decide (0 < t) = true := by simp; omega
              obtain ⟨t', ht'⟩ : ∃ t', t = t' + 1 := ⟨t - 1, by omega⟩
              obtain ⟨p, hp⟩ : ∃ p, L[t']? = some p := ⟨_, List.getElem?_eq_getElem (by omega)⟩
              have f4 : decide (x.lo ≤ p.hi) = false := by
                have := Hprev.out t' x p (ht' ▸ hx) hp
                simp; omega
              have hw5 : IntKind.i64.wrap ((t : Int) - 1) = (t' : Int) := by rw [IntKind.wrap_i64]; omega
              obtain ⟨g', cap', hv, -, -, hc⟩ := hrow.at hp
              simp only [Value.slice.injEq, Option.some.injEq, Addr.mk.injEq, and_true, true_and] at hv
              obtain ⟨rfl, rfl⟩ := hv
              have p1 := hc 1 _ rfl
              have e3 : t' < L.length := by omega
              clear ht0 hc hp ht' hrow
              go_quiet (fail)
              go_wp2_with fail
              go_meet
              exact ⟨rfl, nq, rfl⟩
          case rest =>
            obtain ⟨rfl, q, rfl⟩ := hcut
            have hbq : Below w2.heap.size w2 (wr.drewN q) := HB.out.trans ⟨rfl, rfl, rfl, Nat.le_refl _, fun _ _ => rfl⟩
            obtain ⟨g', cap', hv, -, -, hc⟩ := Hc.out _ hbq
            simp only [Value.slice.injEq, Option.some.injEq, Addr.mk.injEq, and_true, true_and] at hv
            obtain ⟨rfl, rfl⟩ := hv
            have g0 := hc 0 _ rfl
            rw [Nat.add_zero] at g0
            have HBQ := Lib.hid hbq
            generalize wr.drewN q = W at HBQ g0 ⊢
            clear hbq hc hrow f0 f1 f2 g1
            go_wp2_with fail
            clear g0
            go_loopw [6, 8] (fun c i wx => ∃ j : Nat, (j : Int) ≤ x.hi - x.lo ∧ i = .int .i64 (x.lo + j) ∧ c = .int .i64 (S + j) ∧ Below w2.heap.size w2 wx) (fun _ i _ => (x.hi - intOf i).toNat)
            case atStart => exact ⟨0, by omega, by go_num, by go_num, HBQ.out⟩
            case round =>
              obtain ⟨j, hj, rfl, rfl, hb⟩ := hrel
              obtain ⟨g', cap', hv, -, -, hc⟩ := Hc.out _ hb
              simp only [Value.slice.injEq, Option.some.injEq, Addr.mk.injEq, and_true, true_and] at hv
              obtain ⟨rfl, rfl⟩ := hv
              have g1 := hc 1 _ rfl
              by_cases hjl : x.lo + j < x.hi
              · have f5 : decide (x.lo + (j : Int) < x.hi) = true := by simpa using hjl
                have his := (Hms.out _ hb).is (x.lo + j)
                rw [Hin.out _ (by omega) hjl] at his
                have hw1 : IntKind.i64.wrap (x.lo + (j : Int) + 1) = x.lo + (j : Int) + 1 := by rw [IntKind.wrap_i64]; omega
                have hw2 : IntKind.i64.wrap (S + (j : Int) + 1) = S + (j : Int) + 1 := by rw [IntKind.wrap_i64]; omega
                have HBJ := Lib.hid hb
                clear hb hc
                go_wp2_with fail
                refine his.mono ?_
                rintro e w5 ⟨rfl, hb5⟩
                have HB5 := Lib.hid (HBJ.out.trans (hb5.mono HBJ.out.size))
                clear his hb5 g1
                go_wp2_with fail
                go_roundw
                case rel => exact ⟨j + 1, by omega, by simp; omega, by simp; omega, HB5.out⟩
                case measure => simp [intOf]; omega
              · have f5 : decide (x.lo + (j : Int) < x.hi) = false := by simpa using hjl
                have HBJ := Lib.hid hb
                clear hb hc
                go_wp2_with fail
                go_roundw
                case rel => exact ⟨t + 1, by omega, by go_num, by rw [S1.out]; simp; omega, HBJ.out⟩
                case measure => simp [intOf]; omega
        · have et : L.take t = L := List.take_of_length_le (by omega)
          rw [et]
          have hfr := (Hms.out _ hb).free
          have HB := Lib.hid hb
          clear et hb
          go_wp2_with fail
          refine hfr.mono ?_
          rintro e w3 ⟨rfl, hb3⟩
          have hsh := shown_any (w := w3)
          have HB3 := Lib.hid (HB.out.trans (hb3.mono HB.out.size))
          clear hfr hb3
          go_wp2_with fail
          refine hsh.mono ?_
          rintro e w4 ⟨rfl, hb4⟩
          have HF := Lib.hid (Hfin.out _ (HB3.out.trans (hb4.mono HB3.out.size)))
          clear hsh hb4
          go_wp2_with fail
          go_ret
          exact ⟨rfl, HF.out⟩
end Go.Proofs.Ytajbodfdohhhoaa
