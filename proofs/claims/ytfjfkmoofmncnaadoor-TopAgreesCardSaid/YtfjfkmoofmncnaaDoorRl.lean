/- The reference's service: cancel. -/
import Derived.Test.YtfjfkmoofmncnaaDoorRk
namespace Go.Proofs.YtfjfkmoofmncnaaDoor
open Go.RowKit
theorem filter_step (p : Hd → Bool) {l : List Hd} {j : Nat} {x : Hd} (hx : l[j]? = some x) : (l.take (j + 1)).filter p = (l.take j).filter p ++ (if p x = true then [x] else []) := by
  rw [List.take_add_one, hx, List.filter_append]
  cases h : p x <;> simp [h]
section
variable {w X X' : World} {p : RP} {tv wv tv' wv' : Value} {s s' : GS} {c : Cm}
/-- What a method's rows are apart from. -/
theorem row_apart (h0 : IsRS w p s') {B n : Nat} {e : TypeId} {z : Nat} {v : Value} {xs : List Value} (hr : X.ownsRow B e z v n xs) (hB : w.heap.size ≤ B) : ∀ k, v.ownBlock = some k → ¬ fpS p k := fun k hk hf => by
  have h1 := (hr.lt k hk).1
  have h2 := h0.lt k hf
  omega
/-- What lies behind the boxes has turned. -/
theorem RM.beyond (h : RM w X p tv wv s c) (hs : IsRS X' { p with tv := tv, wv := wv } s') (hb : Below (w.heap.size + 2) X X') : RM w X' p tv wv s' c := by
  refine ⟨hs, fun j u hj => (World.cell?_of_block (a := ⟨w.heap.size, j, none⟩) (hb.block w.heap.size (by omega))).trans (h.cb j u hj), fun o ho => ?_, fun o => (World.frozen?_of_block (a := ⟨w.heap.size + 1, o, none⟩) (hb.block (w.heap.size + 1) (by omega))).trans (h.rf o), h.mv.trans (F' := fun i => w.heap.size + 2 ≤ i) ⟨hb.os, hb.tape, hb.output, hb.size, fun i _ hn => hb.block i (by omega)⟩ fun i hi => .inr (by omega), Nat.le_trans h.sz hb.size, h.fl, h.sp, h.ow⟩
  obtain ⟨u, hu⟩ := h.r o ho
  exact ⟨u, (World.cell?_of_block (a := ⟨w.heap.size + 1, o, none⟩) (hb.block (w.heap.size + 1) (by omega))).trans hu⟩
/-- A row of the method's own grows. -/
theorem RM.grown (h : RM w X p p.tv p.wv s c) (h0 : IsRS w p s') {B n : Nat} {e : TypeId} {z : Nat} {v : Value} {xs : List Value} (hr : X.ownsRow B e z v n xs) (hB : w.heap.size + 2 ≤ B) (hg : X.grownBy X' v.ownBlock) : RM w X' p p.tv p.wv s c :=
  h.beyond (h.svc.keep fun k hk => hg.block k (h.svc.lt k hk) (fun e => by have h1 := (hr.lt k e.symm).1; have h2 := h0.lt k hk; omega))
    (((Moves.refl (fun k => w.heap.size + 2 ≤ k) X).grown hg (fun q hq => .inl (Nat.le_trans hB (hr.lt q hq).1))).below h.sz fun k hk => hk)
set_option maxRecDepth 100000 in
set_option maxHeartbeats 8000000 in
theorem rcancel_any (h : IsRS w p s) (hs : s.Ok) (c : Cm) : Calls Tryd.prog 70 #[.pointer (some ⟨p.b, 0, none⟩), c.val] w (RKPost w p (s.cancel c)) := by
  obtain ⟨i0, hi0, hz0, hz1, hz2⟩ := info_parts Tryd.infoHold
  have Hi := Lib.hid hi0
  have Hz := Lib.hid hz0
  have Hz1 := Lib.hid hz1
  have Hz2 := Lib.hid hz2
  clear hi0 hz0 hz1 hz2
  have hM := RM.made h c
  have x1 := hM.cb 1 _ rfl
  have HM := Lib.hid hM
  have H := Lib.hid h
  have HS := Lib.hid hs
  have hcl := fun W => rclient_any (w := W) c.client
  clear hM h hs
  unfold Cm.cells at HM x1
  unfold Cm.val
  by_cases hc : c.client < 8
  · rw [decide_eq_true hc] at hcl
    go_enter Tryd.func70, Tryd.ntmps70
    go_upto_region 3 with (go_at_call 58; refine (hcl _).mono ?_; clear hcl; rintro e w1 ⟨rfl, hw⟩; rw [hw] at HM x1; clear hw)
    go_wp2_with fail
    have hb0 : Below w1.heap.size w1 (w1.alloc (.cells #[] 57)) := (Below.refl _ _).alloc (Nat.le_refl _) _
    have hM1 := HM.out.below hb0
    have hrow0 := World.ownsRow_made (base := w1.heap.size) (e := 57) (size := 4) w1 #[] 0 (by simp) (Nat.zero_le _) rfl
    obtain ⟨G, hG⟩ : ∃ G, G = w1.heap.size := ⟨_, rfl⟩
    have hGw : w.heap.size + 2 ≤ G := by rw [hG]; exact HM.out.sz
    rw [← hG] at hrow0 ⊢
    generalize w1.alloc (.cells #[] 57) = W1 at hM1 hrow0 ⊢
    have HM1 := Lib.hid hM1
    have HR1 := Lib.hid hrow0
    clear hb0 hM1 hrow0 HM x1 hG
    go_loopw [5, 6] (fun lv i wr => ∃ j : Nat, j ≤ s.wait.length ∧ i = .int .i64 (j : Int) ∧ RM w wr p p.tv p.wv s c ∧ G ≤ wr.heap.size ∧ wr.ownsRow G 57 4 lv ((s.wait.take j).filter fun x => !decide (x.c = c.client)).length (hrows ((s.wait.take j).filter fun x => !decide (x.c = c.client)))) (fun _ i _ => s.wait.length - (intOf i).toNat)
    case atStart => exact ⟨0, Nat.zero_le _, rfl, HM1.out, by obtain ⟨q, hq⟩ : ∃ q, q = HR1.out.lt G rfl := ⟨_, rfl⟩; exact Nat.le_of_lt q.2, HR1.out⟩
    case round =>
      clear HM1 HR1
      obtain ⟨j, hj, rfl, hM, hGs, hrow⟩ := hrel
      obtain ⟨wa, wc0, hwv⟩ := row_lens hM.svc.row
      have c2 := hM.svc.c2
      rw [hwv] at c2
      by_cases hlt : j < s.wait.length
      · have e0 : decide ((j : Int) < (s.wait.length : Int)) = true := by simpa using hlt
        have hjz : (j : Int) < (s.wait.length : Int) := by omega
        obtain ⟨x, hx⟩ : ∃ x, s.wait[j]? = some x := ⟨_, List.getElem?_eq_getElem hlt⟩
        obtain ⟨g, cap', ev, hcc⟩ := hrowcell hM.svc.row hx
        rw [hwv] at ev
        injection ev with ev1 ev2 ev3
        subst ev1
        have d0 := hcc 0 _ rfl
        have d1 := hcc 1 _ rfl
        have d2 := hcc 2 _ rfl
        have d3 := hcc 3 _ rfl
        rw [Nat.add_zero] at d0
        have y1 := hM.cb 1 _ rfl
        have hst := filter_step (fun x => !decide (x.c = c.client)) hx
        obtain ⟨T, hT⟩ : ∃ T, T = !decide (x.c = c.client) := ⟨_, rfl⟩
        have hT2 : ((x.c : Int) != (c.client : Int)) = T := by
          rw [hT]
          by_cases e : x.c = c.client
          · simp [e]
          · have : ((x.c : Int) != (c.client : Int)) = true := by simp; omega
            rw [this]; simp [e]
        have HT := Lib.hid hT
        have HT2 := Lib.hid hT2
        have HM := Lib.hid hM
        have HX := Lib.hid hx
        have HWV := Lib.hid hwv
        have hlen : ((s.wait.take j).filter fun x => !decide (x.c = c.client)).length ≤ 32 := by
          have h1 := List.length_filter_le (fun x : Hd => !decide (x.c = c.client)) (s.wait.take j)
          have h2 := HS.out.n
          rw [List.length_take] at h1
          omega
        obtain ⟨FL, hFL⟩ : ∃ FL, FL = ((s.wait.take j).filter fun x => !decide (x.c = c.client)) := ⟨_, rfl⟩
        rw [← hFL] at hrow hst hlen
        have HROW := Lib.hid hrow
        have HST := Lib.hid hst
        have HLEN := Lib.hid hlen
        have h32 := HS.out.n
        clear hFL
        clear hT hT2 hM hrow hst hx hwv hcc ev2 ev3 hlen
        go_upto_region 7 with (fail)
        go_cut [32] from 13 to 42 (fun s32 wx => s32 = .bool T ∧ ∃ q, wx = wr.drewN q)
        case first =>
          go_quiet (fail)
          go_wp2_with fail
          go_meet
          exact ⟨congrArg Value.bool HT2.out, _, rfl⟩
        case rest =>
          obtain ⟨rfl, q, hwq⟩ := hcut
          have hbq : Below wr.heap.size wr wc := by rw [hwq]; exact below_drewN (Below.refl _ _) _
          have hM2 := HM.out.below hbq
          have hrow2 := ownsRow_keep HROW.out fun q hq => hbq.block q (HROW.out.lt q hq).2
          have e2 : wc.cell? ⟨p.b, 2, none⟩ = some (.slice (some ⟨g, 0, none⟩) s.wait.length wc0) := by rw [hwq]; exact c2
          have f0 : wc.cell? ⟨g, j * 4, none⟩ = some (.int .i64 (x.a : Int)) := by rw [hwq]; exact d0
          have f1 : wc.cell? ⟨g, j * 4 + 1, none⟩ = some (.int .i64 (x.b : Int)) := by rw [hwq]; exact d1
          have f2 : wc.cell? ⟨g, j * 4 + 2, none⟩ = some (.int .i64 (x.c : Int)) := by rw [hwq]; exact d2
          have f3 : wc.cell? ⟨g, j * 4 + 3, none⟩ = some (.int .i64 (x.m : Int)) := by rw [hwq]; exact d3
          have hGs2 : G ≤ wc.heap.size := Nat.le_trans hGs hbq.size
          have HM2 := Lib.hid hM2
          have HR2 := Lib.hid hrow2
          clear hM2 hrow2 hbq hwq HM HROW c2 d0 d1 d2 d3 y1
          cases T with
          | false =>
            go_wp2_with fail
            go_roundw
            case rel => exact ⟨j + 1, by omega, by go_num, HM2.out, hGs2, by rw [HST.out, ← HT.out]; simpa using HR2.out⟩
            case measure => simp [intOf]; omega
          | true =>
            obtain ⟨la, lcap, rfl⟩ := row_lens HR2.out
            have hM9 := HM2.out.below ((Below.refl wc.heap.size wc).alloc (Nat.le_refl _) (.cells #[.int .i64 (x.a : Int), .int .i64 (x.b : Int), .int .i64 (x.c : Int), .int .i64 (x.m : Int)] 57))
            have hr9 := World.ownsRow.alloc HR2.out (.cells #[.int .i64 (x.a : Int), .int .i64 (x.b : Int), .int .i64 (x.c : Int), .int .i64 (x.m : Int)] 57)
            have hcl : ∀ q u, (Hd.cells x)[q]? = some u → (wc.alloc (.cells #[.int .i64 (x.a : Int), .int .i64 (x.b : Int), .int .i64 (x.c : Int), .int .i64 (x.m : Int)] 57)).cell? ((⟨wc.heap.size, 0, none⟩ : Addr).add q) = some u := fun q u hq => by
              rw [Addr.add_mid, Nat.zero_add, World.cell?_alloc_new]
              simpa [Hd.cells] using hq
            have hbs : G ≤ (wc.alloc (.cells #[.int .i64 (x.a : Int), .int .i64 (x.b : Int), .int .i64 (x.c : Int), .int .i64 (x.m : Int)] 57)).heap.size := by rw [World.size_alloc]; omega
            have HM9 := Lib.hid hM9
            have HR9 := Lib.hid hr9
            have Hcl := Lib.hid hcl
            have HBS := Lib.hid hbs
            clear hM9 hr9 hcl hbs
            go_wp2_with (refine wpList_append_own_at _ rfl (.tmp 33) (.tmp 41) 47 rfl G 57 i0 _ 4 32 Tryd.underlying47 Hi.out Hz.out Hz1.out Hz2.out rfl (by decide) _ FL.length (hrows FL) rfl HR9.out ⟨wc.heap.size, 0, none⟩ 1 1 (Hd.cells x) rfl rfl Hcl.out (one_hcells _) (by have := HLEN.out; unfold maxLen; omega) (by have := HLEN.out; omega) HBS.out ?_)
            intro v5 w5 hown5 hgrow _ _
            have hM5 := HM9.out.grown H.out HR9.out hGw hgrow
            have HM5 := Lib.hid hM5
            have HR5 := Lib.hid hown5
            have hGs5 : G ≤ w5.heap.size := Nat.le_trans HBS.out hgrow.size
            clear hgrow hown5 hM5
            go_wp2_with fail
            go_roundw
            case rel => exact ⟨j + 1, by omega, by go_num, HM5.out, hGs5, by rw [HST.out, ← HT.out, if_pos rfl, List.length_append, hrows_app]; simpa [hrows] using HR5.out⟩
            case measure => simp [intOf]; omega
      · have ej : j = s.wait.length := by omega
        have e0 : decide ((j : Int) < (s.wait.length : Int)) = false := by simp; omega
        rw [ej, List.take_length] at hrow
        obtain ⟨FL, hFL⟩ : ∃ FL, FL = s.wait.filter fun x => !decide (x.c = c.client) := ⟨_, rfl⟩
        rw [← hFL] at hrow
        obtain ⟨la, lcap, rfl⟩ := row_lens hrow
        by_cases hle : FL.length = s.wait.length
        · have hk : s.cancel c = s := by unfold GS.cancel; rw [if_neg (fun h => h.2 (by rw [← hFL]; exact hle))]
          have e2 : ((FL.length : Int) == (s.wait.length : Int)) = true := by simp [hle]
          have HK := Lib.hid hk
          have HM := Lib.hid hM
          obtain ⟨u0, r0⟩ := HM.out.r 0 (by omega)
          obtain ⟨u1, r1⟩ := HM.out.r 1 (by omega)
          obtain ⟨u2, r2⟩ := HM.out.r 2 (by omega)
          obtain ⟨u3, r3⟩ := HM.out.r 3 (by omega)
          obtain ⟨u4, r4⟩ := HM.out.r 4 (by omega)
          have p0 := HM.out.rf 0
          have p1 := HM.out.rf 1
          have p2 := HM.out.rf 2
          have p3 := HM.out.rf 3
          have p4 := HM.out.rf 4
          clear hk hM hrow hFL hle hwv ej
          go_wp2_with fail
          obtain ⟨z0, z1, z2, z3, z4⟩ := set5_cells (B := w.heap.size + 1) (.int .i64 3) (.int .i64 0) (.slice none 0 0) (.slice none 0 0) (.slice none 0 0) HM.out.r
          refine bodyPost_ret (v := .agg #[.int .i64 3, .int .i64 0, .slice none 0 0, .slice none 0 0, .slice none 0 0]) (by simp [results, Tryd.results70, go_sem, z0, z1, z2, z3, z4]) rfl ?_
          rw [HK.out]
          exact HM.out.fin _ _ _ _ _ rfl (ansv _ _ _ _ _ _ _ _ _ _ _)
        · have hk : s.cancel c = GS.serve ⟨s.R, s.B, FL, s.last, s.by'⟩ := by unfold GS.cancel; rw [if_pos ⟨hc, by rw [← hFL]; exact hle⟩, ← hFL]
          have e2 : ((FL.length : Int) == (s.wait.length : Int)) = false := by simp; omega
          have f2 := hM.svc.fro 2
          have hap := row_apart H.out hrow (by omega)
          have hsv := hM.svc.waits (ownsRow_base hrow fun _ _ => Nat.zero_le _) (fun k hk => ⟨fun e => hap k hk (.inl e), fun e => hap k hk (.inr (.inl e)), fun e => hap k hk (.inr (.inr (.inl e))), fun e => hap k hk (.inr (.inr (.inr (.inl e)))), fun e => hap k hk (.inr (.inr (.inr (.inr (.inr e)))))⟩)
          have hM2 : RM w (wr.setCell ⟨p.b, 2, none⟩ (.slice la FL.length lcap)) p p.tv (.slice la FL.length lcap) ⟨s.R, s.B, FL, s.last, s.by'⟩ c := by
            have hmv := Moves.setCell (F := fpF p) (Moves.refl _ wr) ⟨p.b, 2, none⟩ (.slice la FL.length lcap) (.inl (.inl rfl))
            exact hM.next hsv hmv fun k hk => by
              rcases hk with hk | hk
              · exact .inr (.inl hk)
              · exact .inl (Nat.le_trans hGw (hrow.lt k hk).1)
          have hok : (GS.mk s.R s.B FL s.last s.by').Ok := by rw [hFL]; exact HS.out.sub HS.out.R _ _ HS.out.y
          have hse := rserve_any hM2.svc hok
          have HK := Lib.hid hk
          have HM2 := Lib.hid hM2
          clear hk hM hrow hFL hle hwv ej hap hsv hM2 hok
          go_wp2_with (go_at_call 61
                       refine hse.mono ?_
                       clear hse
                       rintro e w3 ⟨⟨ga, gn, gc, rfl⟩, hq3⟩
                       obtain ⟨tv3, wv3, hM3⟩ := HM2.out.called hq3
                       have HM3 := Lib.hid hM3
                       clear hq3 hM3 HM2
                       obtain ⟨u0, r0⟩ := HM3.out.r 0 (by omega)
                       obtain ⟨u1, r1⟩ := HM3.out.r 1 (by omega)
                       obtain ⟨u2, r2⟩ := HM3.out.r 2 (by omega)
                       obtain ⟨u3, r3⟩ := HM3.out.r 3 (by omega)
                       obtain ⟨u4, r4⟩ := HM3.out.r 4 (by omega)
                       have p0 := HM3.out.rf 0
                       have p1 := HM3.out.rf 1
                       have p2 := HM3.out.rf 2
                       have p3 := HM3.out.rf 3
                       have p4 := HM3.out.rf 4)
          obtain ⟨z0, z1, z2, z3, z4⟩ := set5_cells (B := w.heap.size + 1) (.int .i64 0) (.int .i64 0) (.slice ga gn gc) (.slice none 0 0) (.slice none 0 0) HM3.out.r
          refine bodyPost_ret (v := .agg #[.int .i64 0, .int .i64 0, .slice ga gn gc, .slice none 0 0, .slice none 0 0]) (by simp [results, Tryd.results70, go_sem, z0, z1, z2, z3, z4]) rfl ?_
          rw [HK.out]
          exact HM3.out.fin _ _ _ _ _ rfl (ansv _ _ _ _ _ _ _ _ _ _ _)
  · rw [decide_eq_false hc] at hcl
    have hk : s.cancel c = s := by unfold GS.cancel; rw [if_neg (fun h => hc h.1)]
    rw [hk]
    clear hk
    go_enter Tryd.func70, Tryd.ntmps70
    go_wp2_with (go_at_call 58; refine (hcl _).mono ?_; clear hcl; rintro e w1 ⟨rfl, hw⟩; rw [hw] at HM; clear hw
                 obtain ⟨u0, r0⟩ := HM.out.r 0 (by omega)
                 obtain ⟨u1, r1⟩ := HM.out.r 1 (by omega)
                 obtain ⟨u2, r2⟩ := HM.out.r 2 (by omega)
                 obtain ⟨u3, r3⟩ := HM.out.r 3 (by omega)
                 obtain ⟨u4, r4⟩ := HM.out.r 4 (by omega)
                 have p0 := HM.out.rf 0
                 have p1 := HM.out.rf 1
                 have p2 := HM.out.rf 2
                 have p3 := HM.out.rf 3
                 have p4 := HM.out.rf 4)
    obtain ⟨z0, z1, z2, z3, z4⟩ := set5_cells (B := w.heap.size + 1) (.int .i64 1) (.int .i64 0) (.slice none 0 0) (.slice none 0 0) (.slice none 0 0) HM.out.r
    refine bodyPost_ret (v := .agg #[.int .i64 1, .int .i64 0, .slice none 0 0, .slice none 0 0, .slice none 0 0]) (by simp [results, Tryd.results70, go_sem, z0, z1, z2, z3, z4]) rfl ?_
    exact HM.out.fin _ _ _ _ _ rfl (ansv _ _ _ _ _ _ _ _ _ _ _)
end
end Go.Proofs.YtfjfkmoofmncnaaDoor
