/- The reference's Do: kinds 1 to 4, 8, and what is none. -/
import Derived.Test.YtfjfkmoofmncnaaDoorRm
namespace Go.Proofs.YtfjfkmoofmncnaaDoor
open Go.RowKit
section
variable {w X X' : World} {p : RP} {tv wv tv' wv' : Value} {s s' : GS} {c : Cm}
set_option maxRecDepth 100000 in
set_option maxHeartbeats 8000000 in
theorem rdo1 (h : IsRS w p s) (hs : s.Ok) (c : Cm) (hk : c.kind = 1) : Calls Tryd.prog 40 #[.pointer (some ⟨p.b, 0, none⟩), c.val] w (RKPost w p (s.do c)) := by
  have hdo : s.do c = s.ask c := by
    unfold GS.do
    rw [hk]
    rfl
  have e1 : ((c.kind : Int) == 1) = true := by rw [hk]; rfl
  obtain ⟨X1, hX1⟩ : ∃ X1, X1 = (w.alloc (.cells #[.int .i64 (c.kind : Int), .int .i64 (c.client : Int), .int .i64 (c.seq : Int), .int .i64 (c.now : Int), .int .i64 (c.len : Int), .int .i64 (c.a : Int), .int .i64 (c.b : Int), .int .i64 (c.mode : Int), .int .i64 (c.other : Int)] 114)).alloc (.cells #[.int .i64 0, .int .i64 0, .slice none 0 0, .slice none 0 0, .slice none 0 0] 119) := ⟨_, rfl⟩
  have hM1 : RM w X1 p p.tv p.wv s c := by
    rw [hX1]
    exact RM.made h c
  rw [hdo]
  have HM1 := Lib.hid hM1
  have HX1 := Lib.hid hX1
  have HS := Lib.hid hs
  have H := Lib.hid h
  have x0 := hM1.cb 0 _ rfl
  have x1 := hM1.cb 1 _ rfl
  have x2 := hM1.cb 2 _ rfl
  have x3 := hM1.cb 3 _ rfl
  have x4 := hM1.cb 4 _ rfl
  have x5 := hM1.cb 5 _ rfl
  have x6 := hM1.cb 6 _ rfl
  have x7 := hM1.cb 7 _ rfl
  have x8 := hM1.cb 8 _ rfl
  clear hX1 hM1 hs h hk hdo
  unfold Cm.val
  go_enter Tryd.func40, Tryd.ntmps40
  go_upto_region 1 with (fail)
  rw [← HX1.out]
  clear HX1
  have hca := rask_any HM1.out.svc HS.out c
  unfold Cm.val at hca
  go_wp2_with (go_at_call 57
               refine hca.mono ?_
               clear hca
               rintro e w2 ⟨⟨v, rfl, ve, vn, a1, a2, a3, n1, n2, n3, q1, q2, q3, rfl⟩, hq⟩
               obtain ⟨tv2, wv2, hM2⟩ := HM1.out.called hq
               have HM2 := Lib.hid hM2
               clear hq hM2 HM1 x0 x1 x2 x3 x4 x5 x6 x7 x8
               unfold ans
               obtain ⟨u0, r0⟩ := HM2.out.r 0 (by omega)
               obtain ⟨u1, r1⟩ := HM2.out.r 1 (by omega)
               obtain ⟨u2, r2⟩ := HM2.out.r 2 (by omega)
               obtain ⟨u3, r3⟩ := HM2.out.r 3 (by omega)
               obtain ⟨u4, r4⟩ := HM2.out.r 4 (by omega)
               have p0 := HM2.out.rf 0
               have p1 := HM2.out.rf 1
               have p2 := HM2.out.rf 2
               have p3 := HM2.out.rf 3
               have p4 := HM2.out.rf 4)
  obtain ⟨z0, z1, z2, z3, z4⟩ := set5_cells (B := w.heap.size + 1) (.int .i64 ve) (.int .i64 vn) (.slice a1 n1 q1) (.slice a2 n2 q2) (.slice a3 n3 q3) HM2.out.r
  refine bodyPost_ret (v := .agg #[.int .i64 ve, .int .i64 vn, .slice a1 n1 q1, .slice a2 n2 q2, .slice a3 n3 q3]) (by simp [results, Tryd.results40, go_sem, z0, z1, z2, z3, z4]) rfl ?_
  exact HM2.out.fin _ _ _ _ _ rfl (ansv _ _ _ _ _ _ _ _ _ _ _)
set_option maxRecDepth 100000 in
set_option maxHeartbeats 8000000 in
theorem rdo2 (h : IsRS w p s) (hs : s.Ok) (c : Cm) (hk : c.kind = 2) : Calls Tryd.prog 40 #[.pointer (some ⟨p.b, 0, none⟩), c.val] w (RKPost w p (s.do c)) := by
  have hdo : s.do c = s.release c := by
    unfold GS.do
    rw [hk]
    rfl
  have e1 : ((c.kind : Int) == 1) = false := by rw [hk]; rfl
  have e2 : ((c.kind : Int) == 2) = true := by rw [hk]; rfl
  obtain ⟨X1, hX1⟩ : ∃ X1, X1 = (w.alloc (.cells #[.int .i64 (c.kind : Int), .int .i64 (c.client : Int), .int .i64 (c.seq : Int), .int .i64 (c.now : Int), .int .i64 (c.len : Int), .int .i64 (c.a : Int), .int .i64 (c.b : Int), .int .i64 (c.mode : Int), .int .i64 (c.other : Int)] 114)).alloc (.cells #[.int .i64 0, .int .i64 0, .slice none 0 0, .slice none 0 0, .slice none 0 0] 119) := ⟨_, rfl⟩
  have hM1 : RM w X1 p p.tv p.wv s c := by
    rw [hX1]
    exact RM.made h c
  rw [hdo]
  have HM1 := Lib.hid hM1
  have HX1 := Lib.hid hX1
  have HS := Lib.hid hs
  have H := Lib.hid h
  have x0 := hM1.cb 0 _ rfl
  have x1 := hM1.cb 1 _ rfl
  have x5 := hM1.cb 5 _ rfl
  have x6 := hM1.cb 6 _ rfl
  clear hX1 hM1 hs h hk hdo
  unfold Cm.val
  go_enter Tryd.func40, Tryd.ntmps40
  go_upto_region 1 with (fail)
  rw [← HX1.out]
  clear HX1
  have hcl := fun W => rclient_any (w := W) c.client
  by_cases hc : c.client < 8
  · rw [decide_eq_true hc] at hcl
    have hkk : s.release c = GS.serve ⟨setR s.R c.client c.a c.b (fun _ => 0), s.B, s.wait, s.last, s.by'⟩ := by unfold GS.release; rw [if_pos hc]
    have HK := Lib.hid hkk
    clear hkk
    clear hc
    go_upto_region 9 with (go_at_call 58
                           refine (hcl _).mono ?_
                           clear hcl
                           rintro e w1 ⟨rfl, rfl⟩
                           have c0 := HM1.out.svc.c0
                           dsimp only at c0)
    have hMd := HM1.out.below (Below.refl X1.heap.size X1).drew
    have hcut := rcut_any hMd.svc.tab HS.out.R c.client c.a c.b
    unfold rng at hcut
    have HMD := Lib.hid hMd
    clear hMd
    refine wp_region_still_tail 8 (by kernel_rfl) (by kernel_rfl) ?_
    simp only [List.take_succ_cons, List.take_zero, List.drop_succ_cons, List.drop_zero]
    iterate 8 still_step
    refine wpStill_nil ?_
    have HMF : Hid (∀ W, RTPost X1.drew p.tb (setR s.R c.client c.a c.b (fun _ => 0)) W → ∃ tv', RM w W p tv' p.wv ⟨setR s.R c.client c.a c.b (fun _ => 0), s.B, s.wait, s.last, s.by'⟩ c) := Lib.hid fun W h => by
      obtain ⟨v', h1, h2, h3⟩ := h
      exact ⟨v', HMD.out.tabs h1 h2 fun k hk => .inl (h3 k hk)⟩
    go_upto_region 11 with (go_at_call 59
                            refine hcut.mono ?_
                            clear hcut
                            rintro e w2 ⟨⟨v, rfl⟩, hT⟩
                            obtain ⟨tv2, hM2⟩ := HMF.out w2 hT
                            have HM2 := Lib.hid hM2
                            clear hT hM2)
    have hok : (GS.mk (setR s.R c.client c.a c.b (fun _ => 0)) s.B s.wait s.last s.by').Ok := HS.out.with (small_set HS.out.R c.client c.a c.b (fun _ => 0) (by intro m hm; show 0 ≤ 2; omega)) s.B HS.out.y
    have hse := rserve_any HM2.out.svc hok
    go_wp2_with (go_at_call 61
                 refine hse.mono ?_
                 clear hse
                 rintro e w3 ⟨⟨ga, gn, gc, rfl⟩, hq3⟩
                 obtain ⟨tv3, wv3, hM3⟩ := HM2.out.called hq3
                 have HM3 := Lib.hid hM3
                 clear hq3 hM3 HM2
                 obtain ⟨u0, r0⟩ := HM3.out.r 0 (by omega)
                 obtain ⟨u1, r1⟩ := HM3.out.r 1 (by omega)
                 obtain ⟨u2, r2⟩ := HM3.out.r 2 (by omega)
                 obtain ⟨u3, r3⟩ := HM3.out.r 3 (by omega)
                 obtain ⟨u4, r4⟩ := HM3.out.r 4 (by omega)
                 have p0 := HM3.out.rf 0
                 have p1 := HM3.out.rf 1
                 have p2 := HM3.out.rf 2
                 have p3 := HM3.out.rf 3
                 have p4 := HM3.out.rf 4)
    obtain ⟨z0, z1, z2, z3, z4⟩ := set5_cells (B := w.heap.size + 1) (.int .i64 0) (.int .i64 0) (.slice ga gn gc) (.slice none 0 0) (.slice none 0 0) HM3.out.r
    refine bodyPost_ret (v := .agg #[.int .i64 0, .int .i64 0, .slice ga gn gc, .slice none 0 0, .slice none 0 0]) (by simp [results, Tryd.results40, go_sem, z0, z1, z2, z3, z4]) rfl ?_
    rw [HK.out]
    exact HM3.out.fin _ _ _ _ _ rfl (ansv _ _ _ _ _ _ _ _ _ _ _)
  · rw [decide_eq_false hc] at hcl
    have hkk : s.release c = s := by unfold GS.release; rw [if_neg hc]
    have HK := Lib.hid hkk
    clear hkk
    clear hc
    go_wp2_with (go_at_call 58
                 refine (hcl _).mono ?_
                 clear hcl
                 rintro e w1 ⟨rfl, rfl⟩
                 obtain ⟨u0, r0⟩ := HM1.out.r 0 (by omega)
                 obtain ⟨u1, r1⟩ := HM1.out.r 1 (by omega)
                 obtain ⟨u2, r2⟩ := HM1.out.r 2 (by omega)
                 obtain ⟨u3, r3⟩ := HM1.out.r 3 (by omega)
                 obtain ⟨u4, r4⟩ := HM1.out.r 4 (by omega)
                 have p0 := HM1.out.rf 0
                 have p1 := HM1.out.rf 1
                 have p2 := HM1.out.rf 2
                 have p3 := HM1.out.rf 3
                 have p4 := HM1.out.rf 4)
    obtain ⟨z0, z1, z2, z3, z4⟩ := set5_cells (B := w.heap.size + 1) (.int .i64 1) (.int .i64 0) (.slice none 0 0) (.slice none 0 0) (.slice none 0 0) HM1.out.r
    refine bodyPost_ret (v := .agg #[.int .i64 1, .int .i64 0, .slice none 0 0, .slice none 0 0, .slice none 0 0]) (by simp [results, Tryd.results40, go_sem, z0, z1, z2, z3, z4]) rfl ?_
    rw [HK.out]
    exact HM1.out.fin _ _ _ _ _ rfl (ansv _ _ _ _ _ _ _ _ _ _ _)
set_option maxRecDepth 100000 in
set_option maxHeartbeats 8000000 in
theorem rdo3 (h : IsRS w p s) (hs : s.Ok) (c : Cm) (hk : c.kind = 3) : Calls Tryd.prog 40 #[.pointer (some ⟨p.b, 0, none⟩), c.val] w (RKPost w p (s.do c)) := by
  have hdo : s.do c = s.weaken c := by
    unfold GS.do
    rw [hk]
    rfl
  have e1 : ((c.kind : Int) == 1) = false := by rw [hk]; rfl
  have e2 : ((c.kind : Int) == 2) = false := by rw [hk]; rfl
  have e3 : ((c.kind : Int) == 3) = true := by rw [hk]; rfl
  obtain ⟨X1, hX1⟩ : ∃ X1, X1 = (w.alloc (.cells #[.int .i64 (c.kind : Int), .int .i64 (c.client : Int), .int .i64 (c.seq : Int), .int .i64 (c.now : Int), .int .i64 (c.len : Int), .int .i64 (c.a : Int), .int .i64 (c.b : Int), .int .i64 (c.mode : Int), .int .i64 (c.other : Int)] 114)).alloc (.cells #[.int .i64 0, .int .i64 0, .slice none 0 0, .slice none 0 0, .slice none 0 0] 119) := ⟨_, rfl⟩
  have hM1 : RM w X1 p p.tv p.wv s c := by
    rw [hX1]
    exact RM.made h c
  rw [hdo]
  have HM1 := Lib.hid hM1
  have HX1 := Lib.hid hX1
  have HS := Lib.hid hs
  have H := Lib.hid h
  have x0 := hM1.cb 0 _ rfl
  have x1 := hM1.cb 1 _ rfl
  have x5 := hM1.cb 5 _ rfl
  have x6 := hM1.cb 6 _ rfl
  clear hX1 hM1 hs h hk hdo
  unfold Cm.val
  go_enter Tryd.func40, Tryd.ntmps40
  go_upto_region 1 with (fail)
  rw [← HX1.out]
  clear HX1
  have hcl := fun W => rclient_any (w := W) c.client
  by_cases hc : c.client < 8
  · rw [decide_eq_true hc] at hcl
    have hkk : s.weaken c = GS.serve ⟨setR s.R c.client c.a c.b (fun m => min m 1), s.B, s.wait, s.last, s.by'⟩ := by unfold GS.weaken; rw [if_pos hc]
    have HK := Lib.hid hkk
    clear hkk
    clear hc
    go_upto_region 10 with (go_at_call 58
                            refine (hcl _).mono ?_
                            clear hcl
                            rintro e w1 ⟨rfl, rfl⟩
                            have c0 := HM1.out.svc.c0
                            dsimp only at c0)
    have hMd := HM1.out.below (Below.refl X1.heap.size X1).drew
    have hcut := rweaken_any hMd.svc.tab HS.out.R c.client c.a c.b
    unfold rng at hcut
    have HMD := Lib.hid hMd
    clear hMd
    refine wp_region_still_tail 8 (by kernel_rfl) (by kernel_rfl) ?_
    simp only [List.take_succ_cons, List.take_zero, List.drop_succ_cons, List.drop_zero]
    iterate 8 still_step
    refine wpStill_nil ?_
    have HMF : Hid (∀ W, RTPost X1.drew p.tb (setR s.R c.client c.a c.b (fun m => min m 1)) W → ∃ tv', RM w W p tv' p.wv ⟨setR s.R c.client c.a c.b (fun m => min m 1), s.B, s.wait, s.last, s.by'⟩ c) := Lib.hid fun W h => by
      obtain ⟨v', h1, h2, h3⟩ := h
      exact ⟨v', HMD.out.tabs h1 h2 fun k hk => .inl (h3 k hk)⟩
    go_upto_region 11 with (go_at_call 60
                            refine hcut.mono ?_
                            clear hcut
                            rintro e w2 ⟨⟨v, rfl⟩, hT⟩
                            obtain ⟨tv2, hM2⟩ := HMF.out w2 hT
                            have HM2 := Lib.hid hM2
                            clear hT hM2)
    have hok : (GS.mk (setR s.R c.client c.a c.b (fun m => min m 1)) s.B s.wait s.last s.by').Ok := HS.out.with (small_set HS.out.R c.client c.a c.b (fun m => min m 1) (by intro m hm; show min m 1 ≤ 2; omega)) s.B HS.out.y
    have hse := rserve_any HM2.out.svc hok
    go_wp2_with (go_at_call 61
                 refine hse.mono ?_
                 clear hse
                 rintro e w3 ⟨⟨ga, gn, gc, rfl⟩, hq3⟩
                 obtain ⟨tv3, wv3, hM3⟩ := HM2.out.called hq3
                 have HM3 := Lib.hid hM3
                 clear hq3 hM3 HM2
                 obtain ⟨u0, r0⟩ := HM3.out.r 0 (by omega)
                 obtain ⟨u1, r1⟩ := HM3.out.r 1 (by omega)
                 obtain ⟨u2, r2⟩ := HM3.out.r 2 (by omega)
                 obtain ⟨u3, r3⟩ := HM3.out.r 3 (by omega)
                 obtain ⟨u4, r4⟩ := HM3.out.r 4 (by omega)
                 have p0 := HM3.out.rf 0
                 have p1 := HM3.out.rf 1
                 have p2 := HM3.out.rf 2
                 have p3 := HM3.out.rf 3
                 have p4 := HM3.out.rf 4)
    obtain ⟨z0, z1, z2, z3, z4⟩ := set5_cells (B := w.heap.size + 1) (.int .i64 0) (.int .i64 0) (.slice ga gn gc) (.slice none 0 0) (.slice none 0 0) HM3.out.r
    refine bodyPost_ret (v := .agg #[.int .i64 0, .int .i64 0, .slice ga gn gc, .slice none 0 0, .slice none 0 0]) (by simp [results, Tryd.results40, go_sem, z0, z1, z2, z3, z4]) rfl ?_
    rw [HK.out]
    exact HM3.out.fin _ _ _ _ _ rfl (ansv _ _ _ _ _ _ _ _ _ _ _)
  · rw [decide_eq_false hc] at hcl
    have hkk : s.weaken c = s := by unfold GS.weaken; rw [if_neg hc]
    have HK := Lib.hid hkk
    clear hkk
    clear hc
    go_wp2_with (go_at_call 58
                 refine (hcl _).mono ?_
                 clear hcl
                 rintro e w1 ⟨rfl, rfl⟩
                 obtain ⟨u0, r0⟩ := HM1.out.r 0 (by omega)
                 obtain ⟨u1, r1⟩ := HM1.out.r 1 (by omega)
                 obtain ⟨u2, r2⟩ := HM1.out.r 2 (by omega)
                 obtain ⟨u3, r3⟩ := HM1.out.r 3 (by omega)
                 obtain ⟨u4, r4⟩ := HM1.out.r 4 (by omega)
                 have p0 := HM1.out.rf 0
                 have p1 := HM1.out.rf 1
                 have p2 := HM1.out.rf 2
                 have p3 := HM1.out.rf 3
                 have p4 := HM1.out.rf 4)
    obtain ⟨z0, z1, z2, z3, z4⟩ := set5_cells (B := w.heap.size + 1) (.int .i64 1) (.int .i64 0) (.slice none 0 0) (.slice none 0 0) (.slice none 0 0) HM1.out.r
    refine bodyPost_ret (v := .agg #[.int .i64 1, .int .i64 0, .slice none 0 0, .slice none 0 0, .slice none 0 0]) (by simp [results, Tryd.results40, go_sem, z0, z1, z2, z3, z4]) rfl ?_
    rw [HK.out]
    exact HM1.out.fin _ _ _ _ _ rfl (ansv _ _ _ _ _ _ _ _ _ _ _)
set_option maxRecDepth 100000 in
set_option maxHeartbeats 8000000 in
theorem rdo4 (h : IsRS w p s) (hs : s.Ok) (c : Cm) (hk : c.kind = 4) : Calls Tryd.prog 40 #[.pointer (some ⟨p.b, 0, none⟩), c.val] w (RKPost w p (s.do c)) := by
  have hdo : s.do c = s.renew c := by
    unfold GS.do
    rw [hk]
    rfl
  have e1 : ((c.kind : Int) == 1) = false := by rw [hk]; rfl
  have e2 : ((c.kind : Int) == 2) = false := by rw [hk]; rfl
  have e3 : ((c.kind : Int) == 3) = false := by rw [hk]; rfl
  have e4 : ((c.kind : Int) == 4) = true := by rw [hk]; rfl
  obtain ⟨X1, hX1⟩ : ∃ X1, X1 = (w.alloc (.cells #[.int .i64 (c.kind : Int), .int .i64 (c.client : Int), .int .i64 (c.seq : Int), .int .i64 (c.now : Int), .int .i64 (c.len : Int), .int .i64 (c.a : Int), .int .i64 (c.b : Int), .int .i64 (c.mode : Int), .int .i64 (c.other : Int)] 114)).alloc (.cells #[.int .i64 0, .int .i64 0, .slice none 0 0, .slice none 0 0, .slice none 0 0] 119) := ⟨_, rfl⟩
  have hM1 : RM w X1 p p.tv p.wv s c := by
    rw [hX1]
    exact RM.made h c
  rw [hdo]
  have HM1 := Lib.hid hM1
  have HX1 := Lib.hid hX1
  have HS := Lib.hid hs
  have H := Lib.hid h
  have x0 := hM1.cb 0 _ rfl
  have x1 := hM1.cb 1 _ rfl
  have x2 := hM1.cb 2 _ rfl
  have x3 := hM1.cb 3 _ rfl
  have x4 := hM1.cb 4 _ rfl
  clear hX1 hM1 hs h hk hdo
  unfold Cm.val
  go_enter Tryd.func40, Tryd.ntmps40
  go_upto_region 1 with (fail)
  rw [← HX1.out]
  clear HX1
  have HK : Hid (s.renew c = ⟨s.R, renewK s.B c.client c.seq c.now c.len, s.wait, s.last, s.by'⟩) := Lib.hid rfl
  have c1 := HM1.out.svc.c1
  dsimp only at c1
  have hMd := HM1.out.below (Below.refl X1.heap.size X1).drew
  have hren := rrenew_any hMd.svc.book c.client c.seq c.now c.len
  have hz0 : (X1.drew.cell? ⟨p.b, 1, none⟩ = some (.pointer (some ⟨p.kb, 0, none⟩)) ∧ X1.drew.cell? ⟨w.heap.size, 1, none⟩ = some (.int .i64 (c.client : Int)) ∧ X1.drew.cell? ⟨w.heap.size, 2, none⟩ = some (.int .i64 (c.seq : Int)) ∧ X1.drew.cell? ⟨w.heap.size, 3, none⟩ = some (.int .i64 (c.now : Int)) ∧ X1.drew.cell? ⟨w.heap.size, 4, none⟩ = some (.int .i64 (c.len : Int))) := ⟨hMd.svc.c1, hMd.cb 1 _ rfl, hMd.cb 2 _ rfl, hMd.cb 3 _ rfl, hMd.cb 4 _ rfl⟩
  have HMF : Hid (∀ W, RBPost X1.drew p.kb p.gt p.gs p.gd p.ct (renewK s.B c.client c.seq c.now c.len) W → RM w W p p.tv p.wv ⟨s.R, renewK s.B c.client c.seq c.now c.len, s.wait, s.last, s.by'⟩ c ∧ (W.cell? ⟨p.b, 1, none⟩ = some (.pointer (some ⟨p.kb, 0, none⟩)) ∧ W.cell? ⟨w.heap.size, 1, none⟩ = some (.int .i64 (c.client : Int)) ∧ W.cell? ⟨w.heap.size, 2, none⟩ = some (.int .i64 (c.seq : Int)) ∧ W.cell? ⟨w.heap.size, 3, none⟩ = some (.int .i64 (c.now : Int)) ∧ W.cell? ⟨w.heap.size, 4, none⟩ = some (.int .i64 (c.len : Int)))) := Lib.hid fun W h => ⟨hMd.books h.1 h.2, (hMd.books h.1 h.2).svc.c1, (hMd.books h.1 h.2).cb 1 _ rfl, (hMd.books h.1 h.2).cb 2 _ rfl, (hMd.books h.1 h.2).cb 3 _ rfl, (hMd.books h.1 h.2).cb 4 _ rfl⟩
  clear hMd
  go_upto_region 13 with (fail)
  go_region_held3 (fun w' => (w'.cell? ⟨p.b, 1, none⟩ = some (.pointer (some ⟨p.kb, 0, none⟩)) ∧ w'.cell? ⟨w.heap.size, 1, none⟩ = some (.int .i64 (c.client : Int)) ∧ w'.cell? ⟨w.heap.size, 2, none⟩ = some (.int .i64 (c.seq : Int)) ∧ w'.cell? ⟨w.heap.size, 3, none⟩ = some (.int .i64 (c.now : Int)) ∧ w'.cell? ⟨w.heap.size, 4, none⟩ = some (.int .i64 (c.len : Int)))) (first | exact hz0 | exact (HMF.out _ hT).2)
    ((first
      | (go_at_call 62
         refine hren.mono ?_
         clear hren
         rintro e w2 ⟨⟨x, y, rfl⟩, hT⟩)))
  have HM2 := Lib.hid (HMF.out w2 hT).1
  clear hT
  obtain ⟨u0, r0⟩ := HM2.out.r 0 (by omega)
  obtain ⟨u1, r1⟩ := HM2.out.r 1 (by omega)
  obtain ⟨u2, r2⟩ := HM2.out.r 2 (by omega)
  obtain ⟨u3, r3⟩ := HM2.out.r 3 (by omega)
  obtain ⟨u4, r4⟩ := HM2.out.r 4 (by omega)
  have p0 := HM2.out.rf 0
  have p1 := HM2.out.rf 1
  have p2 := HM2.out.rf 2
  have p3 := HM2.out.rf 3
  have p4 := HM2.out.rf 4
  go_wp2_with fail
  obtain ⟨z0, z1, z2, z3, z4⟩ := set5_cells (B := w.heap.size + 1) (.int .i64 y) (.int .i64 x) (.slice none 0 0) (.slice none 0 0) (.slice none 0 0) HM2.out.r
  refine bodyPost_ret (v := .agg #[.int .i64 y, .int .i64 x, .slice none 0 0, .slice none 0 0, .slice none 0 0]) (by simp [results, Tryd.results40, go_sem, z0, z1, z2, z3, z4]) rfl ?_
  rw [HK.out]
  exact HM2.out.fin _ _ _ _ _ rfl (ansv _ _ _ _ _ _ _ _ _ _ _)
set_option maxRecDepth 100000 in
set_option maxHeartbeats 8000000 in
theorem rdo8 (h : IsRS w p s) (hs : s.Ok) (c : Cm) (hk : c.kind = 8) : Calls Tryd.prog 40 #[.pointer (some ⟨p.b, 0, none⟩), c.val] w (RKPost w p (s.do c)) := by
  have hdo : s.do c = s.cancel c := by
    unfold GS.do
    rw [hk]
    rfl
  have e1 : ((c.kind : Int) == 1) = false := by rw [hk]; rfl
  have e2 : ((c.kind : Int) == 2) = false := by rw [hk]; rfl
  have e3 : ((c.kind : Int) == 3) = false := by rw [hk]; rfl
  have e4 : ((c.kind : Int) == 4) = false := by rw [hk]; rfl
  have e5 : ((c.kind : Int) == 5) = false := by rw [hk]; rfl
  have e6 : ((c.kind : Int) == 6) = false := by rw [hk]; rfl
  have e7 : ((c.kind : Int) == 7) = false := by rw [hk]; rfl
  have e8 : ((c.kind : Int) == 8) = true := by rw [hk]; rfl
  obtain ⟨X1, hX1⟩ : ∃ X1, X1 = (w.alloc (.cells #[.int .i64 (c.kind : Int), .int .i64 (c.client : Int), .int .i64 (c.seq : Int), .int .i64 (c.now : Int), .int .i64 (c.len : Int), .int .i64 (c.a : Int), .int .i64 (c.b : Int), .int .i64 (c.mode : Int), .int .i64 (c.other : Int)] 114)).alloc (.cells #[.int .i64 0, .int .i64 0, .slice none 0 0, .slice none 0 0, .slice none 0 0] 119) := ⟨_, rfl⟩
  have hM1 : RM w X1 p p.tv p.wv s c := by
    rw [hX1]
    exact RM.made h c
  rw [hdo]
  have HM1 := Lib.hid hM1
  have HX1 := Lib.hid hX1
  have HS := Lib.hid hs
  have H := Lib.hid h
  have x0 := hM1.cb 0 _ rfl
  have x1 := hM1.cb 1 _ rfl
  have x2 := hM1.cb 2 _ rfl
  have x3 := hM1.cb 3 _ rfl
  have x4 := hM1.cb 4 _ rfl
  have x5 := hM1.cb 5 _ rfl
  have x6 := hM1.cb 6 _ rfl
  have x7 := hM1.cb 7 _ rfl
  have x8 := hM1.cb 8 _ rfl
  clear hX1 hM1 hs h hk hdo
  unfold Cm.val
  go_enter Tryd.func40, Tryd.ntmps40
  go_upto_region 1 with (fail)
  rw [← HX1.out]
  clear HX1
  have hca := rcancel_any HM1.out.svc HS.out c
  unfold Cm.val at hca
  go_wp2_with (go_at_call 70
               refine hca.mono ?_
               clear hca
               rintro e w2 ⟨⟨v, rfl, ve, vn, a1, a2, a3, n1, n2, n3, q1, q2, q3, rfl⟩, hq⟩
               obtain ⟨tv2, wv2, hM2⟩ := HM1.out.called hq
               have HM2 := Lib.hid hM2
               clear hq hM2 HM1 x0 x1 x2 x3 x4 x5 x6 x7 x8
               unfold ans
               obtain ⟨u0, r0⟩ := HM2.out.r 0 (by omega)
               obtain ⟨u1, r1⟩ := HM2.out.r 1 (by omega)
               obtain ⟨u2, r2⟩ := HM2.out.r 2 (by omega)
               obtain ⟨u3, r3⟩ := HM2.out.r 3 (by omega)
               obtain ⟨u4, r4⟩ := HM2.out.r 4 (by omega)
               have p0 := HM2.out.rf 0
               have p1 := HM2.out.rf 1
               have p2 := HM2.out.rf 2
               have p3 := HM2.out.rf 3
               have p4 := HM2.out.rf 4)
  obtain ⟨z0, z1, z2, z3, z4⟩ := set5_cells (B := w.heap.size + 1) (.int .i64 ve) (.int .i64 vn) (.slice a1 n1 q1) (.slice a2 n2 q2) (.slice a3 n3 q3) HM2.out.r
  refine bodyPost_ret (v := .agg #[.int .i64 ve, .int .i64 vn, .slice a1 n1 q1, .slice a2 n2 q2, .slice a3 n3 q3]) (by simp [results, Tryd.results40, go_sem, z0, z1, z2, z3, z4]) rfl ?_
  exact HM2.out.fin _ _ _ _ _ rfl (ansv _ _ _ _ _ _ _ _ _ _ _)
set_option maxRecDepth 100000 in
set_option maxHeartbeats 8000000 in
theorem rdo0 (h : IsRS w p s) (hs : s.Ok) (c : Cm) (hk : c.kind < 1 ∨ 8 < c.kind) : Calls Tryd.prog 40 #[.pointer (some ⟨p.b, 0, none⟩), c.val] w (RKPost w p (s.do c)) := by
  have hdo : s.do c = s := by
    unfold GS.do
    split <;> first | rfl | omega
  have e1 : ((c.kind : Int) == 1) = false := by simp; omega
  have e2 : ((c.kind : Int) == 2) = false := by simp; omega
  have e3 : ((c.kind : Int) == 3) = false := by simp; omega
  have e4 : ((c.kind : Int) == 4) = false := by simp; omega
  have e5 : ((c.kind : Int) == 5) = false := by simp; omega
  have e6 : ((c.kind : Int) == 6) = false := by simp; omega
  have e7 : ((c.kind : Int) == 7) = false := by simp; omega
  have e8 : ((c.kind : Int) == 8) = false := by simp; omega
  obtain ⟨X1, hX1⟩ : ∃ X1, X1 = (w.alloc (.cells #[.int .i64 (c.kind : Int), .int .i64 (c.client : Int), .int .i64 (c.seq : Int), .int .i64 (c.now : Int), .int .i64 (c.len : Int), .int .i64 (c.a : Int), .int .i64 (c.b : Int), .int .i64 (c.mode : Int), .int .i64 (c.other : Int)] 114)).alloc (.cells #[.int .i64 0, .int .i64 0, .slice none 0 0, .slice none 0 0, .slice none 0 0] 119) := ⟨_, rfl⟩
  have hM1 : RM w X1 p p.tv p.wv s c := by
    rw [hX1]
    exact RM.made h c
  rw [hdo]
  have HM1 := Lib.hid hM1
  have HX1 := Lib.hid hX1
  have HS := Lib.hid hs
  have H := Lib.hid h
  have x0 := hM1.cb 0 _ rfl
  clear hX1 hM1 hs h hk hdo
  unfold Cm.val
  go_enter Tryd.func40, Tryd.ntmps40
  go_upto_region 1 with (fail)
  rw [← HX1.out]
  clear HX1
  obtain ⟨u0, r0⟩ := HM1.out.r 0 (by omega)
  obtain ⟨u1, r1⟩ := HM1.out.r 1 (by omega)
  obtain ⟨u2, r2⟩ := HM1.out.r 2 (by omega)
  obtain ⟨u3, r3⟩ := HM1.out.r 3 (by omega)
  obtain ⟨u4, r4⟩ := HM1.out.r 4 (by omega)
  have p0 := HM1.out.rf 0
  have p1 := HM1.out.rf 1
  have p2 := HM1.out.rf 2
  have p3 := HM1.out.rf 3
  have p4 := HM1.out.rf 4
  go_wp2_with fail
  obtain ⟨z0, z1, z2, z3, z4⟩ := set5_cells (B := w.heap.size + 1) (.int .i64 1) (.int .i64 0) (.slice none 0 0) (.slice none 0 0) (.slice none 0 0) HM1.out.r
  refine bodyPost_ret (v := .agg #[.int .i64 1, .int .i64 0, .slice none 0 0, .slice none 0 0, .slice none 0 0]) (by simp [results, Tryd.results40, go_sem, z0, z1, z2, z3, z4]) rfl ?_
  exact HM1.out.fin _ _ _ _ _ rfl (ansv _ _ _ _ _ _ _ _ _ _ _)
end
end Go.Proofs.YtfjfkmoofmncnaaDoor
