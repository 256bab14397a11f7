/- The reference's Do: kinds 6, 7. -/
import Derived.Test.YtfjfkmoofmncnaaDoorRo
namespace Go.Proofs.YtfjfkmoofmncnaaDoor
open Go.RowKit
section
variable {w X X' : World} {p : RP} {tv wv tv' wv' : Value} {s s' : GS} {c : Cm}
set_option maxRecDepth 100000 in
set_option maxHeartbeats 8000000 in
theorem rdo6 (h : IsRS w p s) (hs : s.Ok) (c : Cm) (hk : c.kind = 6) : Calls Tryd.prog 40 #[.pointer (some ⟨p.b, 0, none⟩), c.val] w (RKPost w p (s.do c)) := by
  have hdo : s.do c = s.recover c := by
    unfold GS.do
    rw [hk]
    rfl
  have e1 : ((c.kind : Int) == 1) = false := by rw [hk]; rfl
  have e2 : ((c.kind : Int) == 2) = false := by rw [hk]; rfl
  have e3 : ((c.kind : Int) == 3) = false := by rw [hk]; rfl
  have e4 : ((c.kind : Int) == 4) = false := by rw [hk]; rfl
  have e5 : ((c.kind : Int) == 5) = false := by rw [hk]; rfl
  have e6 : ((c.kind : Int) == 6) = true := by rw [hk]; rfl
  obtain ⟨X1, hX1⟩ : ∃ X1, X1 = (w.alloc (.cells #[.int .i64 (c.kind : Int), .int .i64 (c.client : Int), .int .i64 (c.seq : Int), .int .i64 (c.now : Int), .int .i64 (c.len : Int), .int .i64 (c.a : Int), .int .i64 (c.b : Int), .int .i64 (c.mode : Int), .int .i64 (c.other : Int)] 114)).alloc (.cells #[.int .i64 0, .int .i64 0, .slice none 0 0, .slice none 0 0, .slice none 0 0] 119) := ⟨_, rfl⟩
  have hM1 : RM w X1 p p.tv p.wv s c := by
    rw [hX1]
    exact RM.made h c
  rw [hdo]
  have HM1 := Lib.hid hM1
  have HX1 := Lib.hid hX1
  have HS := Lib.hid hs
  have H := Lib.hid h
  have x0 := hM1.cb 0 _ rfl
  have x1 := hM1.cb 1 _ rfl
  have x2 := hM1.cb 2 _ rfl
  have x3 := hM1.cb 3 _ rfl
  have x4 := hM1.cb 4 _ rfl
  have x5 := hM1.cb 5 _ rfl
  have x6 := hM1.cb 6 _ rfl
  have x7 := hM1.cb 7 _ rfl
  have x8 := hM1.cb 8 _ rfl
  clear hX1 hM1 hs h hk hdo
  unfold Cm.val
  go_enter Tryd.func40, Tryd.ntmps40
  go_upto_region 1 with (fail)
  rw [← HX1.out]
  clear HX1
  have hrc := rrecovering_any HM1.out.svc c
  unfold Cm.val at hrc
  obtain ⟨D, hD⟩ : ∃ D, D = s.recov c := ⟨_, rfl⟩
  have HD := Lib.hid hD
  rw [← hD] at hrc
  clear hD
  go_upto_region 27 with (go_at_call 65
                          refine hrc.mono ?_
                          clear hrc
                          rintro e w2 ⟨⟨rn, rfl, hrn⟩, hb2⟩
                          have HM2 := Lib.hid (HM1.out.below hb2)
                          have HRN := Lib.hid hrn
                          clear hb2 hrn HM1 x0 x1 x2 x3 x4 x5 x6 x7 x8)
  have x1 := HM2.out.cb 1 _ rfl
  have x8 := HM2.out.cb 8 _ rfl
  cases D with
  | false =>
    have hn0 : (rn == 0) = false := by
      have h1 := HRN.out
      simp only [Bool.false_eq_true, iff_false] at h1
      simp; omega
    have hn1 : (rn != 0) = true := by simp only [bne, hn0]; rfl
    have hn2 : ¬ rn = 0 := by simpa using hn0
    have hkk : s.recover c = s := by unfold GS.recover; rw [if_neg (fun h => by have h1 := h.1; rw [← HD.out] at h1; cases h1)]
    have HK := Lib.hid hkk
    clear hkk
    obtain ⟨u0, r0⟩ := HM2.out.r 0 (by omega)
    obtain ⟨u1, r1⟩ := HM2.out.r 1 (by omega)
    obtain ⟨u2, r2⟩ := HM2.out.r 2 (by omega)
    obtain ⟨u3, r3⟩ := HM2.out.r 3 (by omega)
    obtain ⟨u4, r4⟩ := HM2.out.r 4 (by omega)
    have p0 := HM2.out.rf 0
    have p1 := HM2.out.rf 1
    have p2 := HM2.out.rf 2
    have p3 := HM2.out.rf 3
    have p4 := HM2.out.rf 4
    go_wp2_with fail
    obtain ⟨z0, z1, z2, z3, z4⟩ := set5_cells (B := w.heap.size + 1) (.int .i64 rn) (.int .i64 0) (.slice none 0 0) (.slice none 0 0) (.slice none 0 0) HM2.out.r
    refine bodyPost_ret (v := .agg #[.int .i64 rn, .int .i64 0, .slice none 0 0, .slice none 0 0, .slice none 0 0]) (by simp [results, Tryd.results40, go_sem, z0, z1, z2, z3, z4]) rfl ?_
    rw [HK.out]
    exact HM2.out.fin _ _ _ _ _ rfl (ansv _ _ _ _ _ _ _ _ _ _ _)
  | true =>
    obtain rfl : rn = 0 := HRN.out.2 rfl
    have hrec : livesB s.B c.client = true ∧ c.other < 8 ∧ (s.B c.other).dead = true := by
      have h1 := HD.out.symm
      unfold GS.recov deadB at h1
      rw [Bool.and_eq_true, Bool.and_eq_true, decide_eq_true_eq] at h1
      exact ⟨h1.1, h1.2.1, h1.2.2⟩
    obtain ⟨g1, g2, g3⟩ := hrec
    have HG1 := Lib.hid g1
    have HG3 := Lib.hid g3
    have i8 : (c.other : Int) < 8 := by omega
    clear g1 g3
    have c4 := HM2.out.svc.c4
    have dy := HM2.out.svc.y c.other g2
    dsimp only at c4 dy
    obtain ⟨Y, hY⟩ : ∃ Y, Y = s.by' c.other := ⟨_, rfl⟩
    have HY := Lib.hid hY
    rw [← hY] at dy
    clear hY
    go_upto_region 29 with (fail)
    go_cut [11] from 126 to 140 (fun s11 wx => s11 = .int .i64 (yv Y) ∧ RM w wx p p.tv p.wv s c)
    case first =>
      obtain ⟨yz, hyz⟩ : ∃ yz, yz = yv Y := ⟨_, rfl⟩
      rw [← hyz] at dy
      have HYZ := Lib.hid hyz
      clear hyz
      go_quiet (fail)
      go_wp2_with fail
      go_meet
      exact ⟨by rw [HYZ.out], HM2.out.below (below_drewN (Below.refl _ _) _)⟩
    case rest =>
      obtain ⟨rfl, hM3⟩ := hcut
      have HM3 := Lib.hid hM3
      clear hM3 HM2 x1 x8 c4 dy
      have x1 := HM3.out.cb 1 _ rfl
      have x8 := HM3.out.cb 8 _ rfl
      have c4 := HM3.out.svc.c4
      dsimp only at c4
      have hheld : (s.heldB c = true ∧ ∃ x, Y = some x ∧ ((x : Int) != (c.client : Int)) = true ∧ livesB s.B x = true) ∨ (s.heldB c = false ∧ (Y = none ∨ ∃ x, Y = some x ∧ (((x : Int) != (c.client : Int)) = false ∨ (((x : Int) != (c.client : Int)) = true ∧ livesB s.B x = false)))) := by
        unfold GS.heldB
        rw [← HY.out]
        cases Y with
        | none => right; exact ⟨rfl, .inl rfl⟩
        | some x =>
          by_cases e : x = c.client
          · right; exact ⟨by simp [e], .inr ⟨x, rfl, .inl (by simp [e])⟩⟩
          · have e1 : ((x : Int) != (c.client : Int)) = true := by simp; omega
            cases hl : livesB s.B x with
            | true => left; exact ⟨by simp [e, hl], x, rfl, e1, hl⟩
            | false => right; exact ⟨by simp [hl], .inr ⟨x, rfl, .inr ⟨e1, hl⟩⟩⟩
      obtain ⟨D2, hD2⟩ : ∃ D2, D2 = s.heldB c := ⟨_, rfl⟩
      rw [← hD2] at hheld
      have HD2 := Lib.hid hD2
      clear hD2
      have hli := fun x => rlives_any HM3.out.svc x
      go_upto_region 30 with (fail)
      go_cut [153] from 141 to 153 (fun s153 wx => s153 = .bool D2 ∧ wx = wc)
      case first =>
        rcases hheld with ⟨hd, x, rfl, t1, t2⟩ | ⟨hd, rfl | ⟨x, rfl, t1 | ⟨t1, t2⟩⟩⟩
        all_goals
          have HDD := Lib.hid hd
          clear hd
          unfold yv
          try have hlx := hli x
          try rw [t2] at hlx
          clear hli
          go_wp2_with (go_at_call 66; refine hlx.mono ?_; clear hlx; rintro e w1 ⟨rfl, rfl⟩)
          go_meet
          exact ⟨by rw [HDD.out], rfl⟩
      case rest =>
        obtain ⟨rfl, rfl⟩ := hcut
        clear hheld hli
        cases D2 with
        | true =>
          have hkk : s.recover c = s := by unfold GS.recover; rw [if_neg (fun h => by have h1 := h.2; rw [← HD2.out] at h1; cases h1)]
          have HK := Lib.hid hkk
          clear hkk
          obtain ⟨u0, r0⟩ := HM3.out.r 0 (by omega)
          obtain ⟨u1, r1⟩ := HM3.out.r 1 (by omega)
          obtain ⟨u2, r2⟩ := HM3.out.r 2 (by omega)
          obtain ⟨u3, r3⟩ := HM3.out.r 3 (by omega)
          obtain ⟨u4, r4⟩ := HM3.out.r 4 (by omega)
          have p0 := HM3.out.rf 0
          have p1 := HM3.out.rf 1
          have p2 := HM3.out.rf 2
          have p3 := HM3.out.rf 3
          have p4 := HM3.out.rf 4
          go_wp2_with fail
          obtain ⟨z0, z1, z2, z3, z4⟩ := set5_cells (B := w.heap.size + 1) (.int .i64 150) (.int .i64 0) (.slice none 0 0) (.slice none 0 0) (.slice none 0 0) HM3.out.r
          refine bodyPost_ret (v := .agg #[.int .i64 150, .int .i64 0, .slice none 0 0, .slice none 0 0, .slice none 0 0]) (by simp [results, Tryd.results40, go_sem, z0, z1, z2, z3, z4]) rfl ?_
          rw [HK.out]
          exact HM3.out.fin _ _ _ _ _ rfl (ansv _ _ _ _ _ _ _ _ _ _ _)
        | false =>
          have hkk : s.recover c = ⟨s.R, s.B, s.wait, s.last, updO s.by' c.other (some c.client)⟩ := by unfold GS.recover; rw [if_pos ⟨HD.out.symm, HD2.out.symm⟩]
          have HK := Lib.hid hkk
          clear hkk
          go_upto_region 32 with (fail)
          have dy3 := HM3.out.svc.y c.other g2
          have fy3 := HM3.out.svc.yf c.other
          dsimp only at dy3 fy3
          obtain ⟨yz, hyz⟩ : ∃ yz, yz = yv (s.by' c.other) := ⟨_, rfl⟩
          rw [← hyz] at dy3
          have hM4 := HM3.out.bys c.other (some c.client)
          obtain ⟨W4, hW4⟩ : ∃ W4, W4 = wc.setCell ⟨p.yb, c.other, none⟩ (.int .i64 (c.client : Int)) := ⟨_, rfl⟩
          rw [show wc.setCell ⟨p.yb, c.other, none⟩ (.int .i64 (yv (some c.client))) = W4 from hW4.symm] at hM4
          have HM4 := Lib.hid (hM4.below (Below.refl W4.heap.size W4).drew)
          have HW4 := Lib.hid hW4
          clear hM4 hW4 hyz
          refine wp_region_still_tail 9 (by kernel_rfl) (by kernel_rfl) ?_
          simp only [List.take_succ_cons, List.take_zero, List.drop_succ_cons, List.drop_zero]
          iterate 9 still_step
          refine wpStill_nil ?_
          go_upto_region 33 with (fail)
          rw [show wc.setCell ⟨p.yb, c.other, none⟩ (.int .i64 (c.client : Int)) = W4 from HW4.out.symm]
          generalize W4.drew = W5 at HM4 ⊢
          clear HM3 HW4 x1 x8 c4 dy3 fy3
          have x8 := HM4.out.cb 8 _ rfl
          have c0 := HM4.out.svc.c0
          dsimp only at c0
          have hMd := HM4.out.below (Below.refl W5.heap.size W5).drew
          have hso := some_ref hMd.svc.tab (rholds_len s.R) c.other 0 256 0
          unfold rng at hso
          have HMF : Hid (∀ W, Below W5.drew.heap.size W5.drew W → RM w W p p.tv p.wv ⟨s.R, s.B, s.wait, s.last, updO s.by' c.other (some c.client)⟩ c) := Lib.hid fun W h => hMd.below h
          clear hMd
          refine wp_region_still_tail 7 (by kernel_rfl) (by kernel_rfl) ?_
          simp only [List.take_succ_cons, List.take_zero, List.drop_succ_cons, List.drop_zero]
          iterate 7 still_step
          refine wpStill_nil ?_
          go_wp2_with (go_at_call 67
                       refine hso.mono ?_
                       clear hso
                       rintro e w6 ⟨⟨sv, n, xs, rfl, hsr⟩, hb6⟩
                       obtain ⟨sva, svc, rfl⟩ := row_lens hsr
                       have HM6 := Lib.hid (HMF.out w6 hb6)
                       clear hsr hb6
                       obtain ⟨u0, r0⟩ := HM6.out.r 0 (by omega)
                       obtain ⟨u1, r1⟩ := HM6.out.r 1 (by omega)
                       obtain ⟨u2, r2⟩ := HM6.out.r 2 (by omega)
                       obtain ⟨u3, r3⟩ := HM6.out.r 3 (by omega)
                       obtain ⟨u4, r4⟩ := HM6.out.r 4 (by omega)
                       have p0 := HM6.out.rf 0
                       have p1 := HM6.out.rf 1
                       have p2 := HM6.out.rf 2
                       have p3 := HM6.out.rf 3
                       have p4 := HM6.out.rf 4)
          obtain ⟨z0, z1, z2, z3, z4⟩ := set5_cells (B := w.heap.size + 1) (.int .i64 0) (.int .i64 0) (.slice none 0 0) (.slice sva n svc) (.slice none 0 0) HM6.out.r
          refine bodyPost_ret (v := .agg #[.int .i64 0, .int .i64 0, .slice none 0 0, .slice sva n svc, .slice none 0 0]) (by simp [results, Tryd.results40, go_sem, z0, z1, z2, z3, z4]) rfl ?_
          rw [HK.out]
          exact HM6.out.fin _ _ _ _ _ rfl (ansv _ _ _ _ _ _ _ _ _ _ _)
set_option maxRecDepth 100000 in
set_option maxHeartbeats 8000000 in
theorem rdo7 (h : IsRS w p s) (hs : s.Ok) (c : Cm) (hk : c.kind = 7) : Calls Tryd.prog 40 #[.pointer (some ⟨p.b, 0, none⟩), c.val] w (RKPost w p (s.do c)) := by
  have hdo : s.do c = s.done c := by
    unfold GS.do
    rw [hk]
    rfl
  have e1 : ((c.kind : Int) == 1) = false := by rw [hk]; rfl
  have e2 : ((c.kind : Int) == 2) = false := by rw [hk]; rfl
  have e3 : ((c.kind : Int) == 3) = false := by rw [hk]; rfl
  have e4 : ((c.kind : Int) == 4) = false := by rw [hk]; rfl
  have e5 : ((c.kind : Int) == 5) = false := by rw [hk]; rfl
  have e6 : ((c.kind : Int) == 6) = false := by rw [hk]; rfl
  have e7 : ((c.kind : Int) == 7) = true := by rw [hk]; rfl
  obtain ⟨X1, hX1⟩ : ∃ X1, X1 = (w.alloc (.cells #[.int .i64 (c.kind : Int), .int .i64 (c.client : Int), .int .i64 (c.seq : Int), .int .i64 (c.now : Int), .int .i64 (c.len : Int), .int .i64 (c.a : Int), .int .i64 (c.b : Int), .int .i64 (c.mode : Int), .int .i64 (c.other : Int)] 114)).alloc (.cells #[.int .i64 0, .int .i64 0, .slice none 0 0, .slice none 0 0, .slice none 0 0] 119) := ⟨_, rfl⟩
  have hM1 : RM w X1 p p.tv p.wv s c := by
    rw [hX1]
    exact RM.made h c
  rw [hdo]
  have HM1 := Lib.hid hM1
  have HX1 := Lib.hid hX1
  have HS := Lib.hid hs
  have H := Lib.hid h
  have x0 := hM1.cb 0 _ rfl
  have x1 := hM1.cb 1 _ rfl
  have x2 := hM1.cb 2 _ rfl
  have x3 := hM1.cb 3 _ rfl
  have x4 := hM1.cb 4 _ rfl
  have x5 := hM1.cb 5 _ rfl
  have x6 := hM1.cb 6 _ rfl
  have x7 := hM1.cb 7 _ rfl
  have x8 := hM1.cb 8 _ rfl
  clear hX1 hM1 hs h hk hdo
  unfold Cm.val
  go_enter Tryd.func40, Tryd.ntmps40
  go_upto_region 1 with (fail)
  rw [← HX1.out]
  clear HX1
  have hrc := rrecovering_any HM1.out.svc c
  unfold Cm.val at hrc
  obtain ⟨D, hD⟩ : ∃ D, D = s.recov c := ⟨_, rfl⟩
  have HD := Lib.hid hD
  rw [← hD] at hrc
  clear hD
  go_upto_region 36 with (go_at_call 65
                          refine hrc.mono ?_
                          clear hrc
                          rintro e w2 ⟨⟨rn, rfl, hrn⟩, hb2⟩
                          have HM2 := Lib.hid (HM1.out.below hb2)
                          have HRN := Lib.hid hrn
                          clear hb2 hrn HM1 x0 x1 x2 x3 x4 x5 x6 x7 x8)
  have x1 := HM2.out.cb 1 _ rfl
  have x8 := HM2.out.cb 8 _ rfl
  cases D with
  | false =>
    have hn0 : (rn == 0) = false := by
      have h1 := HRN.out
      simp only [Bool.false_eq_true, iff_false] at h1
      simp; omega
    have hn1 : (rn != 0) = true := by simp only [bne, hn0]; rfl
    have hn2 : ¬ rn = 0 := by simpa using hn0
    have hkk : s.done c = s := by unfold GS.done; rw [if_neg (fun h => by have h1 := h.1; rw [← HD.out] at h1; cases h1)]
    have HK := Lib.hid hkk
    clear hkk
    obtain ⟨u0, r0⟩ := HM2.out.r 0 (by omega)
    obtain ⟨u1, r1⟩ := HM2.out.r 1 (by omega)
    obtain ⟨u2, r2⟩ := HM2.out.r 2 (by omega)
    obtain ⟨u3, r3⟩ := HM2.out.r 3 (by omega)
    obtain ⟨u4, r4⟩ := HM2.out.r 4 (by omega)
    have p0 := HM2.out.rf 0
    have p1 := HM2.out.rf 1
    have p2 := HM2.out.rf 2
    have p3 := HM2.out.rf 3
    have p4 := HM2.out.rf 4
    go_wp2_with fail
    obtain ⟨z0, z1, z2, z3, z4⟩ := set5_cells (B := w.heap.size + 1) (.int .i64 rn) (.int .i64 0) (.slice none 0 0) (.slice none 0 0) (.slice none 0 0) HM2.out.r
    refine bodyPost_ret (v := .agg #[.int .i64 rn, .int .i64 0, .slice none 0 0, .slice none 0 0, .slice none 0 0]) (by simp [results, Tryd.results40, go_sem, z0, z1, z2, z3, z4]) rfl ?_
    rw [HK.out]
    exact HM2.out.fin _ _ _ _ _ rfl (ansv _ _ _ _ _ _ _ _ _ _ _)
  | true =>
    obtain rfl : rn = 0 := HRN.out.2 rfl
    have hrec : livesB s.B c.client = true ∧ c.other < 8 ∧ (s.B c.other).dead = true := by
      have h1 := HD.out.symm
      unfold GS.recov deadB at h1
      rw [Bool.and_eq_true, Bool.and_eq_true, decide_eq_true_eq] at h1
      exact ⟨h1.1, h1.2.1, h1.2.2⟩
    obtain ⟨g1, g2, g3⟩ := hrec
    have HG1 := Lib.hid g1
    have HG3 := Lib.hid g3
    have i8 : (c.other : Int) < 8 := by omega
    clear g1 g3
    have c4 := HM2.out.svc.c4
    have dy := HM2.out.svc.y c.other g2
    dsimp only at c4 dy
    obtain ⟨Y, hY⟩ : ∃ Y, Y = s.by' c.other := ⟨_, rfl⟩
    have HY := Lib.hid hY
    rw [← hY] at dy
    obtain ⟨D2, hD2⟩ : ∃ D2, D2 = (yv Y != (c.client : Int)) := ⟨_, rfl⟩
    have HD2 := Lib.hid hD2
    clear hY hD2
    go_upto_region 38 with (fail)
    go_cut [192] from 178 to 192 (fun s192 wx => s192 = .bool D2 ∧ RM w wx p p.tv p.wv s c)
    case first =>
      obtain ⟨yz, hyz⟩ : ∃ yz, yz = yv Y := ⟨_, rfl⟩
      rw [← hyz] at dy
      have HYZ := Lib.hid hyz
      clear hyz
      go_quiet (fail)
      go_wp2_with fail
      go_meet
      exact ⟨by rw [HD2.out, HYZ.out], HM2.out.below (below_drewN (Below.refl _ _) _)⟩
    case rest =>
      obtain ⟨rfl, hM3⟩ := hcut
      have HM3 := Lib.hid hM3
      clear hM3 HM2 x1 x8 c4 dy
      cases D2 with
      | true =>
        have hkk : s.done c = s := by
          unfold GS.done
          rw [if_neg]
          rintro ⟨-, h2⟩
          have h3 := HD2.out
          rw [HY.out, h2] at h3
          simp [yv] at h3
        have HK := Lib.hid hkk
        clear hkk
        obtain ⟨u0, r0⟩ := HM3.out.r 0 (by omega)
        obtain ⟨u1, r1⟩ := HM3.out.r 1 (by omega)
        obtain ⟨u2, r2⟩ := HM3.out.r 2 (by omega)
        obtain ⟨u3, r3⟩ := HM3.out.r 3 (by omega)
        obtain ⟨u4, r4⟩ := HM3.out.r 4 (by omega)
        have p0 := HM3.out.rf 0
        have p1 := HM3.out.rf 1
        have p2 := HM3.out.rf 2
        have p3 := HM3.out.rf 3
        have p4 := HM3.out.rf 4
        go_wp2_with fail
        obtain ⟨z0, z1, z2, z3, z4⟩ := set5_cells (B := w.heap.size + 1) (.int .i64 150) (.int .i64 0) (.slice none 0 0) (.slice none 0 0) (.slice none 0 0) HM3.out.r
        refine bodyPost_ret (v := .agg #[.int .i64 150, .int .i64 0, .slice none 0 0, .slice none 0 0, .slice none 0 0]) (by simp [results, Tryd.results40, go_sem, z0, z1, z2, z3, z4]) rfl ?_
        rw [HK.out]
        exact HM3.out.fin _ _ _ _ _ rfl (ansv _ _ _ _ _ _ _ _ _ _ _)
      | false =>
        have hYc : s.by' c.other = some c.client := by
          have h3 := HD2.out
          rw [← HY.out]
          cases Y with
          | none => unfold yv at h3; exfalso; have h4 : ((-1 : Int) != (c.client : Int)) = true := by simp
                    rw [h4] at h3; cases h3
          | some x => unfold yv at h3; congr 1; simp at h3; omega
        have hkk : s.done c = GS.serve ⟨setR s.R c.other 0 256 (fun _ => 0), updE s.B c.other ⟨-1, (s.B c.other).seq, false⟩, s.wait, s.last, updO s.by' c.other none⟩ := by unfold GS.done; rw [if_pos ⟨HD.out.symm, hYc⟩]
        have HK := Lib.hid hkk
        clear hkk
        clear hYc
        have x8 := HM3.out.cb 8 _ rfl
        have c0 := HM3.out.svc.c0
        dsimp only at c0
        have hMd := HM3.out.below (Below.refl wc.heap.size wc).drew
        have hdr := rdrop_any hMd.svc.tab HS.out.R c.other
        have HMF : Hid (∀ W, RTPost wc.drew p.tb (setR s.R c.other 0 256 fun _ => 0) W → ∃ tv', RM w W p tv' p.wv ⟨setR s.R c.other 0 256 (fun _ => 0), s.B, s.wait, s.last, s.by'⟩ c) := Lib.hid fun W h => by
          obtain ⟨v', h1, h2, h3⟩ := h
          exact ⟨v', hMd.tabs h1 h2 fun k hk => .inl (h3 k hk)⟩
        clear hMd
        go_upto_region 40 with (fail)
        refine wp_region_still_tail 6 (by kernel_rfl) (by kernel_rfl) ?_
        simp only [List.take_succ_cons, List.take_zero, List.drop_succ_cons, List.drop_zero]
        iterate 6 still_step
        refine wpStill_nil ?_
        go_upto_region 41 with (go_at_call 68
                                refine hdr.mono ?_
                                clear hdr
                                rintro e w4 ⟨⟨v, rfl⟩, hT⟩
                                obtain ⟨tv4, hM4⟩ := HMF.out w4 hT
                                have HM4 := Lib.hid hM4
                                clear hT hM4 x8 c0)
        clear HMF HM3
        have x8 := HM4.out.cb 8 _ rfl
        have c1 := HM4.out.svc.c1
        dsimp only at c1
        have hMd := HM4.out.below (Below.refl w4.heap.size w4).drew
        have hfo := rforgive_dead hMd.svc.book c.other g2 HG3.out
        have HMF : Hid (∀ W, RBPost w4.drew p.kb p.gt p.gs p.gd p.ct (updE s.B c.other ⟨-1, (s.B c.other).seq, false⟩) W → RM w W p tv4 p.wv ⟨setR s.R c.other 0 256 (fun _ => 0), updE s.B c.other ⟨-1, (s.B c.other).seq, false⟩, s.wait, s.last, s.by'⟩ c) := Lib.hid fun W h => hMd.books h.1 h.2
        clear hMd
        refine wp_region_still_tail 6 (by kernel_rfl) (by kernel_rfl) ?_
        simp only [List.take_succ_cons, List.take_zero, List.drop_succ_cons, List.drop_zero]
        iterate 6 still_step
        refine wpStill_nil ?_
        go_upto_region 42 with (go_at_call 69
                                refine hfo.mono ?_
                                clear hfo
                                rintro e w5 ⟨rfl, hT⟩
                                have HM5 := Lib.hid (HMF.out w5 hT)
                                clear hT x8 c1)
        clear HMF HM4
        have x8 := HM5.out.cb 8 _ rfl
        have c4 := HM5.out.svc.c4
        have dy3 := HM5.out.svc.y c.other g2
        have fy3 := HM5.out.svc.yf c.other
        dsimp only at c4 dy3 fy3
        obtain ⟨yz, hyz⟩ : ∃ yz, yz = yv (s.by' c.other) := ⟨_, rfl⟩
        rw [← hyz] at dy3
        have hM6 := HM5.out.bys c.other none
        obtain ⟨W6, hW6⟩ : ∃ W6, W6 = w5.setCell ⟨p.yb, c.other, none⟩ (.int .i64 (-1)) := ⟨_, rfl⟩
        rw [show w5.setCell ⟨p.yb, c.other, none⟩ (.int .i64 (yv none)) = W6 from hW6.symm] at hM6
        have HM6 := Lib.hid (hM6.below (Below.refl W6.heap.size W6).drew)
        have HW6 := Lib.hid hW6
        clear hM6 hW6 hyz
        refine wp_region_still_tail 7 (by kernel_rfl) (by kernel_rfl) ?_
        simp only [List.take_succ_cons, List.take_zero, List.drop_succ_cons, List.drop_zero]
        iterate 7 still_step
        refine wpStill_nil ?_
        go_upto_region 43 with (fail)
        rw [show w5.setCell ⟨p.yb, c.other, none⟩ (.int .i64 (-1)) = W6 from HW6.out.symm]
        generalize W6.drew = W7 at HM6 ⊢
        clear HM5 HW6 x8 c4 dy3 fy3
        have hok : (GS.mk (setR s.R c.other 0 256 fun _ => 0) (updE s.B c.other ⟨-1, (s.B c.other).seq, false⟩) s.wait s.last (updO s.by' c.other none)).Ok := HS.out.with (small_set HS.out.R _ _ _ _ fun _ _ => by omega) _ (updO_lt HS.out.y _ _ fun x hx => by cases hx)
        have hse := rserve_any HM6.out.svc hok
        go_wp2_with (go_at_call 61
                     refine hse.mono ?_
                     clear hse
                     rintro e w3 ⟨⟨ga, gn, gc, rfl⟩, hq3⟩
                     obtain ⟨tv3, wv3, hM3⟩ := HM6.out.called hq3
                     have HM3 := Lib.hid hM3
                     clear hq3 hM3 HM6
                     obtain ⟨u0, r0⟩ := HM3.out.r 0 (by omega)
                     obtain ⟨u1, r1⟩ := HM3.out.r 1 (by omega)
                     obtain ⟨u2, r2⟩ := HM3.out.r 2 (by omega)
                     obtain ⟨u3, r3⟩ := HM3.out.r 3 (by omega)
                     obtain ⟨u4, r4⟩ := HM3.out.r 4 (by omega)
                     have p0 := HM3.out.rf 0
                     have p1 := HM3.out.rf 1
                     have p2 := HM3.out.rf 2
                     have p3 := HM3.out.rf 3
                     have p4 := HM3.out.rf 4)
        obtain ⟨z0, z1, z2, z3, z4⟩ := set5_cells (B := w.heap.size + 1) (.int .i64 0) (.int .i64 0) (.slice ga gn gc) (.slice none 0 0) (.slice none 0 0) HM3.out.r
        refine bodyPost_ret (v := .agg #[.int .i64 0, .int .i64 0, .slice ga gn gc, .slice none 0 0, .slice none 0 0]) (by simp [results, Tryd.results40, go_sem, z0, z1, z2, z3, z4]) rfl ?_
        rw [HK.out]
        exact HM3.out.fin _ _ _ _ _ rfl (ansv _ _ _ _ _ _ _ _ _ _ _)
end
end Go.Proofs.YtfjfkmoofmncnaaDoor
