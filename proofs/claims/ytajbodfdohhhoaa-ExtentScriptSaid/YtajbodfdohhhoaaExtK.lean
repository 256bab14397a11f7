/- The map's Give. -/
import Derived.Test.YtajbodfdohhhoaaExtJ
import Derived.Deep.DeepCutAuto
namespace Go.Proofs.Ytajbodfdohhhoaa
open Go.RowKit
theorem GS.at {w0 : World} {b : Nat} {n : Int} {v0 : Value} {r : Rg} {W : World} {v : Value} {L : List Rg} (h : GS w0 b n v0 r W v L) {k : Nat} {x : Rg} (hx : L[k]? = some x) :
    ∃ g cap, v = .slice (some ⟨g, 0, none⟩) L.length cap ∧ L.length ≤ cap ∧ W.cell? ⟨g, k * 2, none⟩ = some (.int .i64 x.lo) ∧ W.cell? ⟨g, k * 2 + 1, none⟩ = some (.int .i64 x.hi) := by
  obtain ⟨g, cap, hv, -, hc, hcl⟩ := h.m.row.at hx
  exact ⟨g, cap, hv, hc, hcl 0 _ rfl, hcl 1 _ rfl⟩
section
variable {w : World}
set_option maxRecDepth 100000 in
set_option maxHeartbeats 8000000 in
theorem mgive_any {b : Nat} {n : Int} {v : Value} {L : List Rg} (h : IsMap w b n v L) (r : Rg) :
    Calls Try.prog 11 #[.pointer (some ⟨b, 0, none⟩), r.val] w fun e w' => e = .returned (.int .i64 (giveE n L r)) ∧ TurnedR w b n v (giveS n L r) w' := by
  have hbA : Below w.heap.size w (w.alloc (.cells r.cells.toArray 27)) := (Below.refl _ _).alloc (Nat.le_refl _) _
  have hbx := RBox.made w r 27
  have hmay := may_any (h.below hbA) r
  have HbA := Lib.hid hbA
  have Hbx := Lib.hid hbx
  clear hbA hbx
  by_cases hm : mayE n r = 0
  · obtain ⟨r0, r1, r2⟩ := mayE_zero hm
    have hn1 := h.n1
    have hn2 := h.n2
    rw [hm] at hmay
    have hat := fun W (hW : IsMap W b n v L) => mat_any hW r.lo (by omega) (by omega)
    have hal := atR_le r.lo L
    have hll := h.len
    have Hh := Lib.hid h
    obtain ⟨k, hk⟩ : ∃ k, atR r.lo L = k := ⟨_, rfl⟩
    have hoe := okG_iff Hh.out.rise r0 r1
    have hod : okG L r = match L[k]? with | some x => decide (r.hi ≤ x.lo) | none => true := by unfold okG; rw [hk]; cases L[k]? <;> rfl
    rw [hk] at hal hat
    have Hat := Lib.hid hat
    unfold Rg.val at hmay
    by_cases ho : okG L r = true
    · have e1 : giveE n L r = 0 := by simp [giveE, hm, ho]
      have e2 : giveS n L r = giveR L r.lo r.hi := by simp [giveS, hm, ho]
      have hnone := hoe.1 ho
      have hR := (giveR_ok Hh.out.rise r0 r1 r2 hnone).1
      obtain ⟨g2a, g2b⟩ := give2_step hk
      obtain ⟨gq, gj, gz, gs⟩ := giveR_step hk Hh.out.rise r0 r1 r2 hnone
      rw [e1, e2]
      generalize giveR L r.lo r.hi = LR at hR gz gs ⊢
      generalize give2 L r.lo r.hi = L2 at g2a g2b gq gj gz gs
      obtain ⟨L1, hL1⟩ : ∃ L1, L.take k ++ r :: L.drop k = L1 := ⟨_, rfl⟩
      have htk : (L.take k).length = k := by rw [List.length_take]; omega
      have hl1 : L1.length = L.length + 1 := by rw [← hL1, List.length_append, htk, List.length_cons, List.length_drop]; omega
      have hl1k : L1[k]? = some r := by rw [← hL1, List.getElem?_append_right (by omega), htk]; simp
      have hl1y : L1[k + 1]? = L[k]? := by rw [← hL1, List.getElem?_append_right (by omega), htk, show k + 1 - k = 1 by omega, List.getElem?_cons_succ, List.getElem?_drop]; rfl
      rw [hL1] at g2a g2b
      have HL1 := Lib.hid hL1
      have Hl1 := Lib.hid hl1
      have Hl1k := Lib.hid hl1k
      have Hl1y := Lib.hid hl1y
      have HR := Lib.hid hR
      have G2a := Lib.hid g2a
      have G2b := Lib.hid g2b
      have Gq := Lib.hid gq
      have Gj := Lib.hid gj
      have Gz := Lib.hid gz
      have Gs := Lib.hid gs
      have hkt : ∀ x, L[k]? = some x → decide (x.lo < r.hi) = false := fun x hx => by
        rw [hod, hx] at ho
        simp only [decide_eq_true_eq] at ho
        simp; omega
      have Hkt := Lib.hid hkt
      have hGA : GS w b n v r (w.alloc (.cells r.cells.toArray 27)) v L := ⟨(Hh.out.below HbA.out).cells, Moves.of_below HbA.out, fun q hq => .inl hq, fun q hq => Hh.out.lt q hq, Hbx.out⟩
      have HGA := Lib.hid hGA
      clear e1 e2 hnone hR g2a g2b gq gj gz gs hoe hod ho hkt hGA hk h hat hm hL1 hl1 hl1k hl1y htk
      go_enter Try.func11, Try.ntmps11
      unfold Rg.val
      go_wp2_with fail
      refine hmay.mono ?_
      rintro e w2 ⟨rfl, hb2⟩
      have hb02 : Below w.heap.size w w2 := HbA.out.trans (hb2.mono HbA.out.size)
      have hG2 := HGA.out.below hb2
      have hat2 := Hat.out _ (Hh.out.below hb02)
      have hbx2 := hG2.box
      obtain ⟨-, x0, x1⟩ := hbx2
      have HG2 := Lib.hid hG2
      clear hmay hb2 hb02 hG2
      go_wp2_with fail
      refine hat2.mono ?_
      rintro e w3 ⟨rfl, hb3⟩
      have hG3 := HG2.out.below hb3
      obtain ⟨-, y0, y1⟩ := hG3.box
      have c1 := hG3.m.c1
      have HG3 := Lib.hid hG3
      clear hat2 hb3 hG3 x0 x1
      go_upto_region 5 with (fail)
      go_cut [36] from 17 (fun s36 wx => s36 = .bool false ∧ ∃ q, wx = w3.drewN q)
      case first =>
        by_cases hkl : k < L.length
        · obtain ⟨x, hx⟩ : ∃ x, L[k]? = some x := ⟨_, List.getElem?_eq_getElem hkl⟩
          obtain ⟨g, cap, rfl, hcl, g0, g1⟩ := HG3.out.at hx
          have t1 := Hkt.out x hx
          have e1 : decide ((k : Int) < (L.length : Int)) = true := by simpa using hkl
          clear hx
          go_quiet (fail)
          go_wp2_with fail
          go_meet
          exact ⟨rfl, nq, rfl⟩
        · have e1 : decide ((k : Int) < (L.length : Int)) = false := by simpa using hkl
          obtain ⟨a, cap, rfl⟩ := HG3.out.m.row.lens
          go_quiet (fail)
          go_wp2_with fail
          go_meet
          exact ⟨rfl, nq, rfl⟩
      case rest =>
        obtain ⟨rfl, q, rfl⟩ := hcut
        have HGW := Lib.hid (HG3.out.drewN q)
        clear y0 y1 c1
        generalize w3.drewN q = W at HGW ⊢
        go_upto_region 7 with (fail)
        go_cut [] from 37 (fun W1 => ∃ v1, GS w b n v r W1 v1 L1)
        case first =>
          --SKIP{
          have hbD : Below W.heap.size W (W.drew.alloc (.cells r.cells.toArray 27)) := (Below.refl _ _).drew.alloc (Nat.le_refl _) _
          have hGD := HGW.out.below hbD
          have hne : v.ownBlock ≠ some W.heap.size := fun e => by have := HGW.out.m.lt _ (.inr e); omega
          have hin := ins_any hGD.m.row (by omega) hal (r := r) (gl := W.heap.size) ⟨heap_alloc_last W.drew _, rfl, by simp [maxLen]⟩ hne
          rw [HL1.out] at hin
          have htell : ∀ w' v', RowR w' v' L1 → Moves (fun q => v.ownBlock = some q) (W.drew.alloc (.cells r.cells.toArray 27)) w' → (∀ q, v'.ownBlock = some q → v.ownBlock = some q ∨ (W.drew.alloc (.cells r.cells.toArray 27)).heap.size ≤ q) →
              Hid (GS w b n v r (w'.setCell ⟨b, 1, none⟩ v') v' L1) ∧ w'.cell? ⟨b, 1, none⟩ = some v ∧ w'.frozen? ⟨b, 1, none⟩ = false := fun w' v' h1 h2 h3 =>
            ⟨hGD.tell h1 h2 h3, (World.cell?_of_block (a := ⟨b, 1, none⟩) (h2.block b (hGD.m.lt b (.inl rfl)) hGD.m.ne)).trans hGD.m.c1, (World.frozen?_of_block (a := ⟨b, 1, none⟩) (h2.block b (hGD.m.lt b (.inl rfl)) hGD.m.ne)).trans (hGD.m.fro 1)⟩
          have hun : (.cells r.cells.toArray 27 : Obj) = .cells #[.int .i64 r.lo, .int .i64 r.hi] 27 := rfl
          rw [hun] at hin htell hGD
          unfold Ins at hin
          have c1 := HGW.out.m.c1
          have x0 := HGW.out.box.2.1
          have x1 := HGW.out.box.2.2
          have hbW : b < W.heap.size := HGW.out.m.lt b (.inl rfl)
          have huW : w.heap.size < W.heap.size := HGW.out.box.1
          have Hin := Lib.hid hin
          have Htell := Lib.hid htell
          obtain ⟨a0, cap0, rfl⟩ := HGW.out.m.row.lens
          clear hbD hGD hne hin htell hun
          go_region_law (first
            | (go_simp
               go_at_call 29
               refine Hin.out.mono ?_
               rintro e w4 ⟨v4, rfl, hr4, hm4, hn4⟩
               obtain ⟨HT4, c4, f4⟩ := Htell.out w4 v4 hr4 hm4 hn4
               obtain ⟨a4, cap4, rfl⟩ := hr4.lens))
          all_goals
            go_wp2_with fail
            go_meet
            exact ⟨_, HT4.out⟩
          --}SKIP
        case rest =>
          obtain ⟨v1, hG1⟩ := hcut
          obtain ⟨mg, hmg1, hmg0⟩ : ∃ mg, (∀ y, L[k]? = some y → (y.lo == r.hi) = mg) ∧ (L.length ≤ k → mg = false) := by
            cases hy : L[k]? with
            | none => exact ⟨false, fun y hy => (nomatch hy), fun _ => rfl⟩
            | some y => exact ⟨_, fun y' hy' => by cases hy'; rfl, fun hl => by rw [List.getElem?_eq_none hl] at hy; cases hy⟩
          have Hmg1 := Lib.hid hmg1
          have Hmg0 := Lib.hid hmg0
          have HG1 := Lib.hid hG1
          have c1 := hG1.m.c1
          have y0 := hG1.box.2.1
          have y1 := hG1.box.2.2
          have hw1 : IntKind.i64.wrap ((k : Int) + 1) = (k : Int) + 1 := by rw [IntKind.wrap_i64]; omega
          have hw2 : IntKind.i64.wrap ((k : Int) + 2) = (k : Int) + 2 := by rw [IntKind.wrap_i64]; omega
          have hw3 : ((k : Int) + 1).toNat = k + 1 := by omega
          have hw4 : (0 : Int) ≤ (k : Int) + 1 := by omega
          clear hG1 hmg1 hmg0
          go_upto_region 8 with (fail)
          go_cut [69] from 48 (fun s69 W2 => s69 = .bool mg ∧ ∃ q, W2 = wc.drewN q)
          case first =>
            by_cases hkl : k < L.length
            · obtain ⟨y, hy⟩ : ∃ y, L[k]? = some y := ⟨_, List.getElem?_eq_getElem hkl⟩
              obtain ⟨g, cap, rfl, hcl, g0, g1⟩ := HG1.out.at (Hl1y.out.trans hy)
              have e1 : decide ((k : Int) + 1 < (L1.length : Int)) = true := by have := Hl1.out; simp; omega
              have e2 := Hmg1.out y hy
              have e3 : k + 1 < L1.length := by have := Hl1.out; omega
              clear hy
              go_quiet (fail)
              go_wp2_with fail
              go_meet
              exact ⟨rfl, nq, rfl⟩
            · have e1 : decide ((k : Int) + 1 < (L1.length : Int)) = false := by have := Hl1.out; simp; omega
              have e2 := Hmg0.out (by omega)
              obtain ⟨a, cap, rfl⟩ := HG1.out.m.row.lens
              subst e2
              go_quiet (fail)
              go_wp2_with fail
              go_meet
              exact ⟨rfl, nq, rfl⟩
          case rest =>
            obtain ⟨rfl, q, rfl⟩ := hcut
            have HGM := Lib.hid (HG1.out.drewN q)
            clear y0 y1 c1
            generalize World.drewN _ q = WM at HGM ⊢
            go_upto_if 69 with (fail)
            go_cut [] from 70 (fun W3 => ∃ v2, GS w b n v r W3 v2 L2)
            case first =>
              cases mg with
              | false =>
                have e2 : L2 = L1 := G2b.out fun y hy h1 => by
                  have := Hmg1.out y hy
                  simp at this; omega
                subst e2
                go_wp2_with fail
                go_meet
                exact ⟨_, HGM.out⟩
              | true =>
                have hkl : k < L.length := Nat.lt_of_not_le fun h => by have := Hmg0.out h; cases this
                obtain ⟨y, hy⟩ : ∃ y, L[k]? = some y := ⟨_, List.getElem?_eq_getElem hkl⟩
                have hyr : y.lo = r.hi := by have := Hmg1.out y hy; simpa using this
                have e2 := G2a.out y hy hyr
                obtain ⟨g, cap, rfl, hcl, g0, g1⟩ := HGM.out.at (Hl1y.out.trans hy)
                have hGS := (HGM.out.drew).setHi Hl1k.out y.hi
                have hlen : (L1.set k ⟨r.lo, y.hi⟩).length = L1.length := by simp
                have hrow := hGS.m.row
                rw [← hlen] at hrow
                have hdel := del_any hrow (by have := Hl1.out; rw [hlen]; omega) (k := k + 1) (by have := Hl1.out; rw [hlen]; omega)
                have hte := fun w' v' => hGS.tell (W' := w') (v' := v') (L' := (L1.set k ⟨r.lo, y.hi⟩).eraseIdx (k + 1))
                rw [← e2] at hdel hte
                have hbW := hGS.m.lt b (.inl rfl)
                have hneW := hGS.m.ne
                have cW := hGS.m.c1
                have fW := hGS.m.fro 1
                have hnk : ((k + 1 : Nat) : Int) = (k : Int) + 1 := by omega
                rw [hnk, show (k : Int) + 1 + 1 = (k : Int) + 2 by omega] at hdel
                have c1 := HGM.out.m.c1
                have f1 : WM.frozen? ⟨g, k * 2 + 1, none⟩ = false := by
                  obtain ⟨-, -, cur, hB, -⟩ := RowR.blk HGM.out.m.row
                  exact hB.frozen _
                obtain ⟨z, hz⟩ : ∃ z, WM.cell? ⟨g, k * 2 + 1, none⟩ = some z := by
                  obtain ⟨g', cap', hv, -, -, hc⟩ := HGM.out.m.row.at Hl1k.out
                  simp only [Value.slice.injEq, Option.some.injEq, Addr.mk.injEq, and_true, true_and] at hv
                  obtain ⟨rfl, rfl⟩ := hv
                  exact ⟨_, hc 1 _ rfl⟩
                have i1 : k < L1.length := by have := Hl1.out; omega
                have i2 : k + 1 < L1.length := by have := Hl1.out; omega
                rw [hlen] at hdel
                have HGS := Lib.hid hGS
                have Hte := Lib.hid hte
                have Hdel := Lib.hid hdel
                clear hGS hte hdel hrow hy hnk e2
                generalize hWS : (WM.drew.setCell ⟨g, k * 2 + 1, none⟩ (.int .i64 y.hi)) = WS at HGS Hte Hdel hbW hneW cW fW
                go_wp2_with fail
                go_region
                try rw [hWS]
                clear c1 f1 hz hWS g0 g1
                go_wp2_with fail
                refine Hdel.out.mono ?_
                rintro e w5 ⟨rfl, hr5, hm5⟩
                have c5 := (World.cell?_of_block (a := ⟨b, 1, none⟩) (hm5.block b hbW (fun e => hneW (by rw [e]; rfl)))).trans cW
                have f5 := (World.frozen?_of_block (a := ⟨b, 1, none⟩) (hm5.block b hbW (fun e => hneW (by rw [e]; rfl)))).trans fW
                have HG5 := Lib.hid (Hte.out _ _ hr5 (hm5.mono fun q _ hq => by rw [hq]; rfl) fun q hq => .inl (by cases hq; rfl))
                clear hm5 hr5
                go_wp2_with fail
                go_meet
                exact ⟨_, HG5.out⟩
            case rest =>
              obtain ⟨v2, hG2⟩ := hcut
              obtain ⟨ml, hml1, hml0⟩ : ∃ ml, (∀ k' p, k = k' + 1 → L[k']? = some p → (p.hi == r.lo) = ml) ∧ (k = 0 → ml = false) := by
                cases k with
                | zero => exact ⟨false, fun k' p h => (by omega), fun _ => rfl⟩
                | succ k' =>
                  obtain ⟨p, hp⟩ : ∃ p, L[k']? = some p := ⟨_, List.getElem?_eq_getElem (by omega)⟩
                  refine ⟨p.hi == r.lo, fun k2 p2 h2 hp2 => ?_, fun h => by omega⟩
                  · obtain rfl : k2 = k' := by omega
                    rw [hp] at hp2; cases hp2; rfl
              have Hml1 := Lib.hid hml1
              have Hml0 := Lib.hid hml0
              have HJ := Lib.hid hG2
              have c1 := hG2.m.c1
              have y0 := hG2.box.2.1
              have y1 := hG2.box.2.2
              clear hG2 hml1 hml0
              go_upto_region 11 with (fail)
              go_cut [113] from 98 (fun s113 W2 => s113 = .bool ml ∧ ∃ q, W2 = wc.drewN q)
              case first =>
                by_cases hk0 : k = 0
                · have e2 := Hml0.out hk0
                  have e1 : decide (0 < k) = false := by simp; omega
                  have e1' : decide ((k : Int) > 0) = false := by simp; omega
                  subst e2
                  clear hk0
                  go_quiet (fail)
                  go_wp2_with fail
                  go_meet
                  exact ⟨rfl, nq, rfl⟩
                · obtain ⟨k', hk'⟩ : ∃ k', k = k' + 1 := ⟨k - 1, by omega⟩
                  have e1 : decide (0 < k) = true := by simp; omega
                  have e1' : decide ((k : Int) > 0) = true := by simp; omega
                  obtain ⟨p, hp⟩ : ∃ p, L[k']? = some p := ⟨_, List.getElem?_eq_getElem (by omega)⟩
                  have e2 := Hml1.out k' p hk' hp
                  obtain ⟨g, cap, rfl, hcl, g0, g1⟩ := HJ.out.at ((Gj.out k' (by omega)).trans hp)
                  have hw5 : IntKind.i64.wrap ((k : Int) - 1) = (k' : Int) := by rw [IntKind.wrap_i64]; omega
                  obtain ⟨q, hq⟩ := Gq.out
                  have e3 : k' < L2.length := by have := (List.getElem?_eq_some_iff.1 hq).1; omega
                  clear hp hk' hq
                  go_quiet (fail)
                  go_wp2_with fail
                  go_meet
                  exact ⟨rfl, nq, rfl⟩
              case rest =>
                obtain ⟨rfl, q, rfl⟩ := hcut
                have HJM := Lib.hid (HJ.out.drewN q)
                clear y0 y1 c1
                generalize World.drewN _ q = WM at HJM ⊢
                go_upto_if 113 with (fail)
                go_cut [] from 114 (fun W3 => ∃ v3, GS w b n v r W3 v3 LR)
                case first =>
                  cases ml with
                  | false =>
                    have e2 : LR = L2 := by
                      by_cases hk0 : k = 0
                      · exact Gz.out hk0
                      · obtain ⟨k', hk'⟩ : ∃ k', k = k' + 1 := ⟨k - 1, by omega⟩
                        obtain ⟨p, hp⟩ : ∃ p, L[k']? = some p := ⟨_, List.getElem?_eq_getElem (by omega)⟩
                        obtain ⟨q, hq⟩ := Gq.out
                        rw [Gs.out k' p q hk' hp hq, if_neg (by have := Hml1.out k' p hk' hp; simpa using this)]
                    subst e2
                    go_wp2_with fail
                    go_meet
                    exact ⟨_, HJM.out⟩
                  | true =>
                    have hk0 : k ≠ 0 := fun h => by have := Hml0.out h; cases this
                    obtain ⟨k', hk'⟩ : ∃ k', k = k' + 1 := ⟨k - 1, by omega⟩
                    obtain ⟨p, hp⟩ : ∃ p, L[k']? = some p := ⟨_, List.getElem?_eq_getElem (by omega)⟩
                    obtain ⟨q, hq⟩ := Gq.out
                    have hp2 := (Gj.out k' (by omega)).trans hp
                    have e2 : LR = (L2.set k' ⟨p.lo, q.hi⟩).eraseIdx k := by rw [Gs.out k' p q hk' hp hq, if_pos (by have := Hml1.out k' p hk' hp; simpa using this), hk']
                    obtain ⟨g, cap, rfl, hcl, g0, g1⟩ := HJM.out.at hq
                    have hGS := (HJM.out.drew).setHi hp2 q.hi
                    have i2 : k < L2.length := (List.getElem?_eq_some_iff.1 hq).1
                    have i1 : k' < L2.length := by omega
                    have hlm : L2.length ≤ 5001 := by
                      rcases Classical.em (∀ y, L[k]? = some y → y.lo ≠ r.hi) with h1 | h1
                      · rw [G2b.out h1, Hl1.out]; omega
                      · obtain ⟨y, hy⟩ := Classical.not_forall.1 h1
                        obtain ⟨hy, hyr⟩ := Classical.not_imp.1 hy
                        rw [G2a.out y hy (Classical.not_not.1 hyr)]
                        have := List.length_eraseIdx_le (L1.set k ⟨r.lo, y.hi⟩) (k + 1)
                        rw [List.length_set, Hl1.out] at this
                        omega
                    have hlen : (L2.set k' ⟨p.lo, q.hi⟩).length = L2.length := by simp
                    have hrow := hGS.m.row
                    rw [← hlen] at hrow
                    have hdel := del_any hrow (by rw [hlen]; omega) (k := k) (by rw [hlen]; omega)
                    have hte := fun w' v' => hGS.tell (W' := w') (v' := v') (L' := (L2.set k' ⟨p.lo, q.hi⟩).eraseIdx k)
                    rw [← e2] at hdel hte
                    have hbW := hGS.m.lt b (.inl rfl)
                    have hneW := hGS.m.ne
                    have cW := hGS.m.c1
                    have fW := hGS.m.fro 1
                    have c1 := HJM.out.m.c1
                    have f1 : WM.frozen? ⟨g, k' * 2 + 1, none⟩ = false := by
                      obtain ⟨-, -, cur, hB, -⟩ := RowR.blk HJM.out.m.row
                      exact hB.frozen _
                    obtain ⟨z, hz⟩ : ∃ z, WM.cell? ⟨g, k' * 2 + 1, none⟩ = some z := by
                      obtain ⟨g', cap', hv, -, -, hc⟩ := HJM.out.m.row.at hp2
                      simp only [Value.slice.injEq, Option.some.injEq, Addr.mk.injEq, and_true, true_and] at hv
                      obtain ⟨rfl, rfl⟩ := hv
                      exact ⟨_, hc 1 _ rfl⟩
                    have hw5 : IntKind.i64.wrap ((k : Int) - 1) = (k' : Int) := by rw [IntKind.wrap_i64]; omega
                    rw [hlen] at hdel
                    have HGS := Lib.hid hGS
                    have Hte := Lib.hid hte
                    have Hdel := Lib.hid hdel
                    clear hGS hte hdel hrow hp hp2 hq e2 hk0 hk'
                    generalize hWS : (WM.drew.setCell ⟨g, k' * 2 + 1, none⟩ (.int .i64 q.hi)) = WS at HGS Hte Hdel hbW hneW cW fW
                    go_wp2_with fail
                    go_region
                    try rw [hWS]
                    clear c1 f1 hz hWS g0 g1
                    go_wp2_with fail
                    refine Hdel.out.mono ?_
                    rintro e w5 ⟨rfl, hr5, hm5⟩
                    have c5 := (World.cell?_of_block (a := ⟨b, 1, none⟩) (hm5.block b hbW (fun e => hneW (by rw [e]; rfl)))).trans cW
                    have f5 := (World.frozen?_of_block (a := ⟨b, 1, none⟩) (hm5.block b hbW (fun e => hneW (by rw [e]; rfl)))).trans fW
                    have HG5 := Lib.hid (Hte.out _ _ hr5 (hm5.mono fun q _ hq => by rw [hq]; rfl) fun q hq => .inl (by cases hq; rfl))
                    clear hm5 hr5
                    go_wp2_with fail
                    go_meet
                    exact ⟨_, HG5.out⟩
                case rest =>
                  obtain ⟨v3, hG3⟩ := hcut
                  have HT := Lib.hid (hG3.turned hn1 hn2 HR.out)
                  clear hG3
                  go_wp2_with fail
                  go_ret
                  exact ⟨rfl, HT.out⟩
    · have e1 : giveE n L r = 3 := by simp [giveE, hm, ho]
      have e2 : giveS n L r = L := by simp [giveS, ho]
      obtain ⟨x, hx⟩ : ∃ x, L[k]? = some x := by
        cases hx : L[k]? with
        | none => rw [hod, hx] at ho; simp at ho
        | some x => exact ⟨x, rfl⟩
      have t1 : decide (x.lo < r.hi) = true := by
        rw [hod, hx] at ho
        simp at ho; simp; omega
      rw [e1, e2]
      have hkl := (List.getElem?_eq_some_iff.1 hx).1
      have e3 : decide ((k : Int) < (L.length : Int)) = true := by simpa using hkl
      have hGA : GS w b n v r (w.alloc (.cells r.cells.toArray 27)) v L := ⟨(Hh.out.below HbA.out).cells, Moves.of_below HbA.out, fun q hq => .inl hq, fun q hq => Hh.out.lt q hq, Hbx.out⟩
      have HGA := Lib.hid hGA
      have Hx := Lib.hid hx
      clear e1 e2 hoe hod ho hGA hx hk h hat hm
      go_enter Try.func11, Try.ntmps11
      unfold Rg.val
      go_wp2_with fail
      refine hmay.mono ?_
      rintro e w2 ⟨rfl, hb2⟩
      have hb02 : Below w.heap.size w w2 := HbA.out.trans (hb2.mono HbA.out.size)
      have hG2 := HGA.out.below hb2
      have hat2 := Hat.out _ (Hh.out.below hb02)
      obtain ⟨-, x0, x1⟩ := hG2.box
      have HG2 := Lib.hid hG2
      have H02 := Lib.hid hb02
      clear hmay hb2 hb02 hG2
      go_wp2_with fail
      refine hat2.mono ?_
      rintro e w3 ⟨rfl, hb3⟩
      have hb03 : Below w.heap.size w w3 := H02.out.trans (hb3.mono H02.out.size)
      have hG3 := HG2.out.below hb3
      obtain ⟨-, y0, y1⟩ := hG3.box
      have c1 := hG3.m.c1
      obtain ⟨g, cap, rfl, hcl, g0, g1⟩ := hG3.at Hx.out
      have HQ := Lib.hid (fun nq => TurnedR.quiet (w' := w3.drewN nq) Hh.out (hb03.trans ⟨rfl, rfl, rfl, Nat.le_refl _, fun _ _ => rfl⟩))
      clear hat2 hb3 hb03 hG3 x0 x1
      go_wp2_with fail
      go_quiet (fail)
      have HT := Lib.hid (HQ.out nq)
      clear g0 g1 y0 y1 c1
      go_wp2_with fail
      go_ret
      exact ⟨rfl, HT.out⟩
  · have e1 : giveE n L r = mayE n r := by simp [giveE, hm]
    have e2 : giveS n L r = L := by simp [giveS, hm]
    have hne : (mayE n r != 0) = true := by simpa using hm
    rw [e1, e2]
    have Hh := Lib.hid h
    clear e1 e2 hm h
    generalize mayE n r = ee at hmay hne ⊢
    unfold Rg.val at hmay
    go_enter Try.func11, Try.ntmps11
    unfold Rg.val
    go_wp2_with fail
    refine hmay.mono ?_
    rintro e w2 ⟨rfl, hb2⟩
    have HT := Lib.hid (TurnedR.quiet Hh.out (HbA.out.trans (hb2.mono HbA.out.size)))
    clear hmay hb2
    go_wp2_with fail
    go_ret
    exact ⟨rfl, HT.out⟩
end
end Go.Proofs.Ytajbodfdohhhoaa
