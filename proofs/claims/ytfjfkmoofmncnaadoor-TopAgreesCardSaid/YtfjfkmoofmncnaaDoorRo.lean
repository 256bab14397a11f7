/- The reference's Do: kind 5. -/
import Derived.Test.YtfjfkmoofmncnaaDoorRn
namespace Go.Proofs.YtfjfkmoofmncnaaDoor
open Go.RowKit
section
variable {w X X' : World} {p : RP} {tv wv tv' wv' : Value} {s s' : GS} {c : Cm}
set_option maxRecDepth 100000 in
set_option maxHeartbeats 8000000 in
theorem rdo5 (h : IsRS w p s) (hs : s.Ok) (c : Cm) (hk : c.kind = 5) : Calls Tryd.prog 40 #[.pointer (some ⟨p.b, 0, none⟩), c.val] w (RKPost w p (s.do c)) := by
  have hdo : s.do c = s.sweep c := by
    unfold GS.do
    rw [hk]
    rfl
  have e1 : ((c.kind : Int) == 1) = false := by rw [hk]; rfl
  have e2 : ((c.kind : Int) == 2) = false := by rw [hk]; rfl
  have e3 : ((c.kind : Int) == 3) = false := by rw [hk]; rfl
  have e4 : ((c.kind : Int) == 4) = false := by rw [hk]; rfl
  have e5 : ((c.kind : Int) == 5) = true := by rw [hk]; rfl
  obtain ⟨X1, hX1⟩ : ∃ X1, X1 = (w.alloc (.cells #[.int .i64 (c.kind : Int), .int .i64 (c.client : Int), .int .i64 (c.seq : Int), .int .i64 (c.now : Int), .int .i64 (c.len : Int), .int .i64 (c.a : Int), .int .i64 (c.b : Int), .int .i64 (c.mode : Int), .int .i64 (c.other : Int)] 114)).alloc (.cells #[.int .i64 0, .int .i64 0, .slice none 0 0, .slice none 0 0, .slice none 0 0] 119) := ⟨_, rfl⟩
  have hM1 : RM w X1 p p.tv p.wv s c := by
    rw [hX1]
    exact RM.made h c
  rw [hdo]
  have HM1 := Lib.hid hM1
  have HX1 := Lib.hid hX1
  have HS := Lib.hid hs
  have H := Lib.hid h
  have x0 := hM1.cb 0 _ rfl
  have x3 := hM1.cb 3 _ rfl
  clear hX1 hM1 hs h hk hdo
  unfold Cm.val
  go_enter Tryd.func40, Tryd.ntmps40
  go_upto_region 1 with (fail)
  rw [← HX1.out]
  clear HX1
  obtain ⟨i0, hi0, hz0, hz1, hz2⟩ := info_parts Tryd.infoHold
  have Hi := Lib.hid hi0
  have Hz := Lib.hid hz0
  have Hz1 := Lib.hid hz1
  have Hz2 := Lib.hid hz2
  clear hi0 hz0 hz1 hz2
  obtain ⟨K, hK⟩ : ∃ K, K = sweepK s.B (c.now : Int) 8 := ⟨_, rfl⟩
  have hkk : s.sweep c = GS.serve ⟨s.R, K, s.wait.filter (fun x => !deadB K x.c), s.last, s.by'⟩ := by rw [hK]; rfl
  have HK := Lib.hid hkk
  clear hkk
  have hok2 : (GS.mk s.R K s.wait s.last s.by').Ok := ⟨HS.out.R, HS.out.w, HS.out.n, HS.out.l, HS.out.y⟩
  have HOK2 := Lib.hid hok2
  have c1 := HM1.out.svc.c1
  dsimp only at c1
  have hMd := HM1.out.below (Below.refl X1.heap.size X1).drew
  have hsw := rsweep_any hMd.svc.book (c.now : Int)
  rw [← hK] at hsw
  have HMF : Hid (∀ W, RBPost X1.drew p.kb p.gt p.gs p.gd p.ct K W → RM w W p p.tv p.wv ⟨s.R, K, s.wait, s.last, s.by'⟩ c) := Lib.hid fun W h => hMd.books h.1 h.2
  clear hMd hK hok2
  go_upto_region 16 with (fail)
  refine wp_region_still_tail 6 (by kernel_rfl) (by kernel_rfl) ?_
  simp only [List.take_succ_cons, List.take_zero, List.drop_succ_cons, List.drop_zero]
  iterate 6 still_step
  refine wpStill_nil ?_
  go_upto_region 17 with (go_at_call 63
                          refine hsw.mono ?_
                          clear hsw
                          rintro e w2 ⟨⟨da, dn, dc, rfl⟩, hT⟩
                          have HM2 := Lib.hid (HMF.out w2 hT)
                          clear hT)
  clear HM1 HMF c1 x0 x3
  go_wp2_with fail
  have hb0 : Below w2.heap.size w2 (w2.alloc (.cells #[] 57)) := (Below.refl _ _).alloc (Nat.le_refl _) _
  have hM3 := HM2.out.below hb0
  have hrow0 := World.ownsRow_made (base := w2.heap.size) (e := 57) (size := 4) w2 #[] 0 (by simp) (Nat.zero_le _) rfl
  obtain ⟨G, hG⟩ : ∃ G, G = w2.heap.size := ⟨_, rfl⟩
  have hGw : w.heap.size + 2 ≤ G := by rw [hG]; exact HM2.out.sz
  rw [← hG] at hrow0 ⊢
  generalize w2.alloc (.cells #[] 57) = W1 at hM3 hrow0 ⊢
  have HM3 := Lib.hid hM3
  have HR3 := Lib.hid hrow0
  clear hb0 hM3 hrow0 HM2 hG
  go_loopw [8, 9] (fun lv i wr => ∃ j : Nat, j ≤ s.wait.length ∧ i = .int .i64 (j : Int) ∧ RM w wr p p.tv p.wv ⟨s.R, K, s.wait, s.last, s.by'⟩ c ∧ G ≤ wr.heap.size ∧ wr.ownsRow G 57 4 lv ((s.wait.take j).filter fun x => !deadB K x.c).length (hrows ((s.wait.take j).filter fun x => !deadB K x.c))) (fun _ i _ => s.wait.length - (intOf i).toNat)
  case atStart => exact ⟨0, Nat.zero_le _, rfl, HM3.out, by obtain ⟨q, hq⟩ : ∃ q, q = HR3.out.lt G rfl := ⟨_, rfl⟩; exact Nat.le_of_lt q.2, HR3.out⟩
  case round =>
    clear HM3 HR3
    obtain ⟨j, hj, rfl, hM, hGs, hrow⟩ := hrel
    have h32 := HS.out.n
    obtain ⟨wa, wc0, hwv⟩ := row_lens hM.svc.row
    have c2 := hM.svc.c2
    rw [hwv] at c2
    dsimp only at c2
    by_cases hlt : j < s.wait.length
    · have e0 : decide ((j : Int) < (s.wait.length : Int)) = true := by simpa using hlt
      have hjz : (j : Int) < (s.wait.length : Int) := by omega
      obtain ⟨x, hx⟩ : ∃ x, s.wait[j]? = some x := ⟨_, List.getElem?_eq_getElem hlt⟩
      obtain ⟨g, cap', ev, hcc⟩ := hrowcell hM.svc.row hx
      rw [hwv] at ev
      injection ev with ev1 ev2 ev3
      subst ev1
      have d0 := hcc 0 _ rfl
      have d1 := hcc 1 _ rfl
      have d2 := hcc 2 _ rfl
      have d3 := hcc 3 _ rfl
      rw [Nat.add_zero] at d0
      have c1 := hM.svc.c1
      dsimp only at c1
      have hde := rdead_any (hM.svc.keep (w' := wr.drew) fun _ _ => rfl).book x.c
      rw [show (decide (x.c < 8) && (K x.c).dead) = deadB K x.c from rfl] at hde
      have hst := filter_step (fun x => !deadB K x.c) hx
      have hlen : ((s.wait.take j).filter fun x => !deadB K x.c).length ≤ 32 := by
        have h1 := List.length_filter_le (fun x : Hd => !deadB K x.c) (s.wait.take j)
        rw [List.length_take] at h1
        omega
      obtain ⟨T, hT⟩ : ∃ T, T = deadB K x.c := ⟨_, rfl⟩
      have HT := Lib.hid hT
      rw [← hT] at hde
      obtain ⟨FX, hFX⟩ : ∃ FX, FX = ((s.wait.take j).filter fun x => !deadB K x.c) := ⟨_, rfl⟩
      rw [← hFX] at hrow hst hlen
      have HM := Lib.hid hM
      have HROW := Lib.hid hrow
      have HST := Lib.hid hst
      have HLEN := Lib.hid hlen
      have HX := Lib.hid hx
      clear hT hM hrow hst hx hwv hcc ev2 ev3 hlen hFX
      go_upto_region 21 with (fail)
      go_cut [105] from 83 to 115 (fun s105 wx => s105 = .bool (!T) ∧ wx = wr.drew)
      case first =>
        refine wp_region_still_tail 12 (by kernel_rfl) (by kernel_rfl) ?_
        simp only [List.take_succ_cons, List.take_zero, List.drop_succ_cons, List.drop_zero]
        iterate 12 still_step
        refine wpStill_nil ?_
        go_wp2_with (go_at_call 64
                     refine hde.mono ?_
                     clear hde
                     rintro e w3 ⟨rfl, rfl⟩)
        go_meet
        exact ⟨rfl, rfl⟩
      case rest =>
        obtain ⟨rfl, hwq⟩ := hcut
        have hbq : Below wr.heap.size wr wc := by rw [hwq]; exact (Below.refl _ _).drew
        have hM2 := HM.out.below hbq
        have hrow2 := ownsRow_keep HROW.out fun q hq => hbq.block q (HROW.out.lt q hq).2
        have e2 : wc.cell? ⟨p.b, 2, none⟩ = some (.slice (some ⟨g, 0, none⟩) s.wait.length wc0) := by rw [hwq]; exact c2
        have f0 : wc.cell? ⟨g, j * 4, none⟩ = some (.int .i64 (x.a : Int)) := by rw [hwq]; exact d0
        have f1 : wc.cell? ⟨g, j * 4 + 1, none⟩ = some (.int .i64 (x.b : Int)) := by rw [hwq]; exact d1
        have f2 : wc.cell? ⟨g, j * 4 + 2, none⟩ = some (.int .i64 (x.c : Int)) := by rw [hwq]; exact d2
        have f3 : wc.cell? ⟨g, j * 4 + 3, none⟩ = some (.int .i64 (x.m : Int)) := by rw [hwq]; exact d3
        have hGs2 : G ≤ wc.heap.size := Nat.le_trans hGs hbq.size
        have HM2 := Lib.hid hM2
        have HR2 := Lib.hid hrow2
        clear hM2 hrow2 hbq hwq HM HROW c1 c2 d0 d1 d2 d3 hde
        cases T with
        | true =>
          go_wp2_with fail
          go_roundw
          case rel => exact ⟨j + 1, by omega, by go_num, HM2.out, hGs2, by rw [HST.out, ← HT.out]; simpa using HR2.out⟩
          case measure => simp [intOf]; omega
        | false =>
          obtain ⟨la, lcap, rfl⟩ := row_lens HR2.out
          have hM9 := HM2.out.below ((Below.refl wc.heap.size wc).alloc (Nat.le_refl _) (.cells #[.int .i64 (x.a : Int), .int .i64 (x.b : Int), .int .i64 (x.c : Int), .int .i64 (x.m : Int)] 57))
          have hr9 := World.ownsRow.alloc HR2.out (.cells #[.int .i64 (x.a : Int), .int .i64 (x.b : Int), .int .i64 (x.c : Int), .int .i64 (x.m : Int)] 57)
          have hcl : ∀ q u, (Hd.cells x)[q]? = some u → (wc.alloc (.cells #[.int .i64 (x.a : Int), .int .i64 (x.b : Int), .int .i64 (x.c : Int), .int .i64 (x.m : Int)] 57)).cell? ((⟨wc.heap.size, 0, none⟩ : Addr).add q) = some u := fun q u hq => by
            rw [Addr.add_mid, Nat.zero_add, World.cell?_alloc_new]
            simpa [Hd.cells] using hq
          have hbs : G ≤ (wc.alloc (.cells #[.int .i64 (x.a : Int), .int .i64 (x.b : Int), .int .i64 (x.c : Int), .int .i64 (x.m : Int)] 57)).heap.size := by rw [World.size_alloc]; omega
          have HM9 := Lib.hid hM9
          have HR9 := Lib.hid hr9
          have Hcl := Lib.hid hcl
          have HBS := Lib.hid hbs
          clear hM9 hr9 hcl hbs
          go_wp2_with (refine wpList_append_own_at _ rfl (.tmp 106) (.tmp 114) 47 rfl G 57 i0 _ 4 32 Tryd.underlying47 Hi.out Hz.out Hz1.out Hz2.out rfl (by decide) _ FX.length (hrows FX) rfl HR9.out ⟨wc.heap.size, 0, none⟩ 1 1 (Hd.cells x) rfl rfl Hcl.out (one_hcells _) (by have := HLEN.out; unfold maxLen; omega) (by have := HLEN.out; omega) HBS.out ?_)
          intro v5 w5 hown5 hgrow _ _
          have hM5 := HM9.out.grown H.out HR9.out hGw hgrow
          have HM5 := Lib.hid hM5
          have HR5 := Lib.hid hown5
          have hGs5 : G ≤ w5.heap.size := Nat.le_trans HBS.out hgrow.size
          clear hgrow hown5 hM5
          go_wp2_with fail
          go_roundw
          case rel => exact ⟨j + 1, by omega, by go_num, HM5.out, hGs5, by rw [HST.out, ← HT.out, Bool.not_false, if_pos rfl, List.length_append, hrows_app]; simpa [hrows] using HR5.out⟩
          case measure => simp [intOf]; omega
    · have ej : j = s.wait.length := by omega
      have e0 : decide ((j : Int) < (s.wait.length : Int)) = false := by simp; omega
      rw [ej, List.take_length] at hrow
      obtain ⟨FX, hFX⟩ : ∃ FX, FX = s.wait.filter fun x => !deadB K x.c := ⟨_, rfl⟩
      rw [← hFX] at hrow
      obtain ⟨la, lcap, rfl⟩ := row_lens hrow
      have f2 := hM.svc.fro 2
      dsimp only at f2
      have hap := row_apart H.out hrow (by omega)
      have hsv := hM.svc.waits (ownsRow_base hrow fun _ _ => Nat.zero_le _) (fun k hk => ⟨fun e => hap k hk (.inl e), fun e => hap k hk (.inr (.inl e)), fun e => hap k hk (.inr (.inr (.inl e))), fun e => hap k hk (.inr (.inr (.inr (.inl e)))), fun e => hap k hk (.inr (.inr (.inr (.inr (.inr e)))))⟩)
      have hM2 : RM w (wr.setCell ⟨p.b, 2, none⟩ (.slice la FX.length lcap)) p p.tv (.slice la FX.length lcap) ⟨s.R, K, FX, s.last, s.by'⟩ c := by
        have hmv := Moves.setCell (F := fpF p) (Moves.refl _ wr) ⟨p.b, 2, none⟩ (.slice la FX.length lcap) (.inl (.inl rfl))
        exact hM.next hsv hmv fun k hk => by
          rcases hk with hk | hk
          · exact .inr (.inl hk)
          · exact .inl (Nat.le_trans hGw (hrow.lt k hk).1)
      have hok : (GS.mk s.R K FX s.last s.by').Ok := by rw [hFX]; exact HOK2.out.sub HS.out.R K _ HS.out.y
      have HK2 : Hid (s.sweep c = GS.serve ⟨s.R, K, FX, s.last, s.by'⟩) := Lib.hid (by rw [hFX]; exact HK.out)
      clear HK
      have HK := HK2
      have HM2 := Lib.hid hM2
      have hse := rserve_any HM2.out.svc hok
      clear hM hrow hFX hwv ej hap hsv hM2 hok HK2
      go_wp2_with (go_at_call 61
                   refine hse.mono ?_
                   clear hse
                   rintro e w3 ⟨⟨ga, gn, gc, rfl⟩, hq3⟩
                   obtain ⟨tv3, wv3, hM3⟩ := HM2.out.called hq3
                   have HM3 := Lib.hid hM3
                   clear hq3 hM3 HM2
                   obtain ⟨u0, r0⟩ := HM3.out.r 0 (by omega)
                   obtain ⟨u1, r1⟩ := HM3.out.r 1 (by omega)
                   obtain ⟨u2, r2⟩ := HM3.out.r 2 (by omega)
                   obtain ⟨u3, r3⟩ := HM3.out.r 3 (by omega)
                   obtain ⟨u4, r4⟩ := HM3.out.r 4 (by omega)
                   have p0 := HM3.out.rf 0
                   have p1 := HM3.out.rf 1
                   have p2 := HM3.out.rf 2
                   have p3 := HM3.out.rf 3
                   have p4 := HM3.out.rf 4)
      obtain ⟨z0, z1, z2, z3, z4⟩ := set5_cells (B := w.heap.size + 1) (.int .i64 0) (.int .i64 0) (.slice ga gn gc) (.slice none 0 0) (.slice da dn dc) HM3.out.r
      refine bodyPost_ret (v := .agg #[.int .i64 0, .int .i64 0, .slice ga gn gc, .slice none 0 0, .slice da dn dc]) (by simp [results, Tryd.results40, go_sem, z0, z1, z2, z3, z4]) rfl ?_
      rw [HK.out]
      exact HM3.out.fin _ _ _ _ _ rfl (ansv _ _ _ _ _ _ _ _ _ _ _)
end
end Go.Proofs.YtfjfkmoofmncnaaDoor
