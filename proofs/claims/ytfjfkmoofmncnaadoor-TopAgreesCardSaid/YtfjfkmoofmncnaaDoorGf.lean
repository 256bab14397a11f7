/- The commands' methods: done, sweep, cancel. -/
import Derived.Test.YtfjfkmoofmncnaaDoorGe
namespace Go.Proofs.YtfjfkmoofmncnaaDoor
open Go.RowKit
section
variable {w w' X X' : World} {b tb kb mb n n' : Nat} {wv0 wv wv' : Value} {s s' : GS} {c : Cm}
theorem IsSvc.rows (h : IsSvc w b tb kb mb wv n s) {l : List Hd} (hm : Moves (fun k => wv.ownBlock = some k) w w') (hr : w'.ownsRow 0 57 4 wv' l.length (hrows l)) (hob : wv'.ownBlock = wv.ownBlock) : IsSvc (w'.setCell ⟨b, 2, none⟩ wv') b tb kb mb wv' n ⟨s.R, s.B, l, s.last, s.by'⟩ := by
  obtain ⟨e1, e2, e3, e4, e5, e6⟩ := h.d1
  have hl := h.lt
  have hd : ∀ k, k = b ∨ k = tb ∨ k = kb ∨ k = mb ∨ k = 1 → ¬ wv.ownBlock = some k := fun k hk he => by
    have h1 := h.d2 k he
    have h2 := h.g k (.inr (.inr (.inr (.inr he))))
    rcases hk with e | e | e | e | e
    · exact h1.1 e
    · exact h1.2.1 e
    · exact h1.2.2.1 e
    · exact h1.2.2.2 e
    · rw [e] at h2; exact absurd h2 (by decide)
  have hb := hm.block b (hl b (.inl rfl)) (hd b (.inl rfl))
  have hk : ∀ k, k ≠ b → (w'.setCell ⟨b, 2, none⟩ wv').heap[k]? = w'.heap[k]? := fun k hk => Below.heap_setCell _ _ _ _ hk
  have hc : ∀ o v, w.cell? ⟨b, o, none⟩ = some v → w'.cell? ⟨b, o, none⟩ = some v := fun o v h => (World.cell?_of_block (a := ⟨b, o, none⟩) hb).trans h
  refine ⟨?_, ?_, World.cell?_setCell_same _ _ _ (hc _ _ h.c2), ?_, ?_, fun o => by rw [World.frozen?_setCell]; exact (World.frozen?_of_block (a := ⟨b, o, none⟩) hb).trans (h.fro o), h.tab.keep ((hk _ (Ne.symm e1)).trans (hm.block tb (hl tb (.inr (.inl rfl))) (hd tb (.inr (.inl rfl))))), h.book.keep ((hk _ (Ne.symm e2)).trans (hm.block kb (hl kb (.inr (.inr (.inl rfl)))) (hd kb (.inr (.inr (.inl rfl)))))), ownsRow_keep hr fun k hv => hk k (h.d2 k (hob ▸ hv)).1, h.ma.keep ((hk _ (Ne.symm e3)).trans (hm.block mb (hl mb (.inr (.inr (.inr (.inl rfl))))) (hd mb (.inr (.inr (.inr (.inl rfl))))))), h.d1, fun k hv => h.d2 k (hob ▸ hv), h.whole.keep ((hk _ (fun e => by have h2 := h.g b (.inl rfl); rw [← e] at h2; exact absurd h2 (by decide))).trans (hm.block _ h.whole.lt (hd _ (.inr (.inr (.inr (.inr rfl))))))), fun k hf => h.g k (by rcases hf with hf | hf | hf | hf | hf; exact .inl hf; exact .inr (.inl hf); exact .inr (.inr (.inl hf)); exact .inr (.inr (.inr (.inl hf))); exact .inr (.inr (.inr (.inr (hob ▸ hf)))))⟩
  · rw [oth_cell _ _ _ (by omega)]; exact hc _ _ h.c0
  · rw [oth_cell _ _ _ (by omega)]; exact hc _ _ h.c1
  · rw [oth_cell _ _ _ (by omega)]; exact hc _ _ h.c3
  · rw [oth_cell _ _ _ (by omega)]; exact hc _ _ h.c4
set_option maxRecDepth 100000 in
set_option maxHeartbeats 4000000 in
theorem gdone_any (h : IsSvc w b tb kb mb wv n s) (hs : s.Ok) (c : Cm) (ho : c.other < 1000) : Calls Tryd.prog 117 #[.pointer (some ⟨b, 0, none⟩), c.val] w (MPost w b tb kb mb wv n (s.done c)) := by
  have hM := MB.made h c
  have hrc := recovg_any hM.svc c
  have HM := Lib.hid hM
  clear hM h
  unfold Cm.cells at HM hrc
  unfold Cm.val at *
  cases hr : s.recov c with
  | false =>
    have e0 : (rcE s c != 0) = true := by have := rcE_zero s c; rw [hr] at this; simpa using this
    have hrel : s.done c = s := by unfold GS.done; rw [if_neg (fun e => by rw [hr] at e; exact absurd e.1 (by decide))]
    rw [hrel]
    clear hr hrel
    generalize rcE s c = E at hrc e0
    go_enter Tryd.func117, Tryd.ntmps117
    go_wp2_with (go_at_call 133; refine hrc.mono ?_; clear hrc; rintro e w1 ⟨rfl, hb1⟩
                 have HM2 := Lib.hid (HM.out.below hb1)
                 obtain ⟨u0, r0⟩ := HM2.out.r 0 (by omega)
                 obtain ⟨u1, r1⟩ := HM2.out.r 1 (by omega)
                 obtain ⟨u2, r2⟩ := HM2.out.r 2 (by omega)
                 obtain ⟨u3, r3⟩ := HM2.out.r 3 (by omega)
                 obtain ⟨u4, r4⟩ := HM2.out.r 4 (by omega)
                 have p0 := HM2.out.rf 0
                 have p1 := HM2.out.rf 1
                 have p2 := HM2.out.rf 2
                 have p3 := HM2.out.rf 3
                 have p4 := HM2.out.rf 4)
    obtain ⟨z0, z1, z2, z3, z4⟩ := set5_cells (B := w.heap.size + 1) (.int .i64 E) (.int .i64 0) (.slice none 0 0) (.slice none 0 0) (.slice none 0 0) HM2.out.r
    refine bodyPost_ret (v := .agg #[.int .i64 E, .int .i64 0, .slice none 0 0, .slice none 0 0, .slice none 0 0]) (by simp [results, Tryd.results117, go_sem, z0, z1, z2, z3, z4]) rfl ?_
    exact HM2.out.fin (by omega) _ _ _ _ _ rfl (ansv _ _ _ _ _ _ _ _ _ _ _)
  | true =>
    have e0 : rcE s c = 0 := (rcE_zero s c).2 hr
    rw [e0] at hrc
    clear e0
    have hlt : c.other < 8 ∧ (s.B c.other).dead = true := by unfold GS.recov deadB at hr; simp at hr; exact ⟨hr.2.1, hr.2.2⟩
    cases hby : s.by' c.other with
    | none =>
      have hrel : s.done c = s := by unfold GS.done; rw [if_neg (fun e => by rw [hby] at e; exact absurd e.2 (by simp))]
      rw [hrel]
      clear hr hrel hlt
      go_enter Tryd.func117, Tryd.ntmps117
      go_wp2_with (go_at_call 133; refine hrc.mono ?_; clear hrc; rintro e w1 ⟨rfl, hb1⟩
                   have HM2 := Lib.hid (HM.out.below hb1)
                   clear hb1 HM
                   have c4 := HM2.out.svc.c4
                   have x8 := HM2.out.cb 8 _ rfl
                   have hl : ∀ j, (Instr.lookup 65 (.map (some mb)) (.int .i64 (c.other : Int)) true).run Tryd.prog (w1.drewN j) = .ok (.tuple #[.int .i64 0, .bool false]) (w1.drewN j) := fun j => by have := look_by (HM2.out.same j).svc c.other ho; rw [hby] at this; exact this)
      go_quiet (fail)
      have HM3 := Lib.hid (HM2.out.same nq)
      clear HM2 c4 x8 hl
      generalize w1.drewN nq = w2 at HM3 ⊢
      have x1 := HM3.out.cb 1 _ rfl
      obtain ⟨u0, r0⟩ := HM3.out.r 0 (by omega)
      obtain ⟨u1, r1⟩ := HM3.out.r 1 (by omega)
      obtain ⟨u2, r2⟩ := HM3.out.r 2 (by omega)
      obtain ⟨u3, r3⟩ := HM3.out.r 3 (by omega)
      obtain ⟨u4, r4⟩ := HM3.out.r 4 (by omega)
      have p0 := HM3.out.rf 0
      have p1 := HM3.out.rf 1
      have p2 := HM3.out.rf 2
      have p3 := HM3.out.rf 3
      have p4 := HM3.out.rf 4
      clear hby
      go_wp2_with fail
      obtain ⟨z0, z1, z2, z3, z4⟩ := set5_cells (B := w.heap.size + 1) (.int .i64 150) (.int .i64 0) (.slice none 0 0) (.slice none 0 0) (.slice none 0 0) HM3.out.r
      refine bodyPost_ret (v := .agg #[.int .i64 150, .int .i64 0, .slice none 0 0, .slice none 0 0, .slice none 0 0]) (by simp [results, Tryd.results117, go_sem, z0, z1, z2, z3, z4]) rfl ?_
      exact HM3.out.fin (by omega) _ _ _ _ _ rfl (ansv _ _ _ _ _ _ _ _ _ _ _)
    | some y =>
      by_cases hyc : y = c.client
      case neg =>
        have hrel : s.done c = s := by unfold GS.done; rw [if_neg (fun e => by rw [hby] at e; exact absurd e.2 (by simpa using hyc))]
        rw [hrel]
        clear hr hrel hlt
        have e1 : ((y : Int) != (c.client : Int)) = true := by simp; omega
        go_enter Tryd.func117, Tryd.ntmps117
        go_wp2_with (go_at_call 133; refine hrc.mono ?_; clear hrc; rintro e w1 ⟨rfl, hb1⟩
                     have HM2 := Lib.hid (HM.out.below hb1)
                     clear hb1 HM
                     have c4 := HM2.out.svc.c4
                     have x8 := HM2.out.cb 8 _ rfl
                     have hl : ∀ j, (Instr.lookup 65 (.map (some mb)) (.int .i64 (c.other : Int)) true).run Tryd.prog (w1.drewN j) = .ok (.tuple #[.int .i64 (y : Int), .bool true]) (w1.drewN j) := fun j => by have := look_by (HM2.out.same j).svc c.other ho; rw [hby] at this; exact this)
        go_quiet (fail)
        have HM3 := Lib.hid (HM2.out.same nq)
        clear HM2 c4 x8 hl
        generalize w1.drewN nq = w2 at HM3 ⊢
        have x1 := HM3.out.cb 1 _ rfl
        obtain ⟨u0, r0⟩ := HM3.out.r 0 (by omega)
        obtain ⟨u1, r1⟩ := HM3.out.r 1 (by omega)
        obtain ⟨u2, r2⟩ := HM3.out.r 2 (by omega)
        obtain ⟨u3, r3⟩ := HM3.out.r 3 (by omega)
        obtain ⟨u4, r4⟩ := HM3.out.r 4 (by omega)
        have p0 := HM3.out.rf 0
        have p1 := HM3.out.rf 1
        have p2 := HM3.out.rf 2
        have p3 := HM3.out.rf 3
        have p4 := HM3.out.rf 4
        clear hby
        go_wp2_with fail
        obtain ⟨z0, z1, z2, z3, z4⟩ := set5_cells (B := w.heap.size + 1) (.int .i64 150) (.int .i64 0) (.slice none 0 0) (.slice none 0 0) (.slice none 0 0) HM3.out.r
        refine bodyPost_ret (v := .agg #[.int .i64 150, .int .i64 0, .slice none 0 0, .slice none 0 0, .slice none 0 0]) (by simp [results, Tryd.results117, go_sem, z0, z1, z2, z3, z4]) rfl ?_
        exact HM3.out.fin (by omega) _ _ _ _ _ rfl (ansv _ _ _ _ _ _ _ _ _ _ _)
      case pos =>
        have hrel : s.done c = GS.serve ⟨setR s.R c.other 0 256 (fun _ => 0), updE s.B c.other ⟨-1, (s.B c.other).seq, false⟩, s.wait, s.last, updO s.by' c.other none⟩ := by unfold GS.done; rw [if_pos ⟨hr, by rw [hby, hyc]⟩]
        rw [hrel]
        clear hr hrel
        have e1 : ((y : Int) != (c.client : Int)) = false := by simp [hyc]
        go_enter Tryd.func117, Tryd.ntmps117
        go_wp2_with (go_at_call 133; refine hrc.mono ?_; clear hrc; rintro e w1 ⟨rfl, hb1⟩
                     have HM2 := Lib.hid (HM.out.below hb1)
                     clear hb1 HM
                     have c4 := HM2.out.svc.c4
                     have x8 := HM2.out.cb 8 _ rfl
                     have hl : ∀ j, (Instr.lookup 65 (.map (some mb)) (.int .i64 (c.other : Int)) true).run Tryd.prog (w1.drewN j) = .ok (.tuple #[.int .i64 (y : Int), .bool true]) (w1.drewN j) := fun j => by have := look_by (HM2.out.same j).svc c.other ho; rw [hby] at this; exact this)
        go_quiet (fail)
        have HM3 := Lib.hid (HM2.out.same nq)
        clear HM2 c4 x8 hl
        generalize w1.drewN nq = w2 at HM3 ⊢
        have x1 := HM3.out.cb 1 _ rfl
        clear hby hyc
        have x8 := HM3.out.cb 8 _ rfl
        have c0 := HM3.out.svc.c0
        have hdr := drop_any HM3.out.drew.svc.tab hs.R HM3.out.drew.svc.whole c.other hlt.1
        go_wp2_with fail
        refine wp_region_still_tail 7 (by kernel_rfl) (by kernel_rfl) ?_
        simp only [List.take_succ_cons, List.take_zero, List.drop_succ_cons, List.drop_zero]
        iterate 7 still_step
        refine wpStill_nil ?_
        go_wp2_with (go_at_call 135; refine hdr.mono ?_; clear hdr; rintro e w3 ⟨⟨_, rfl⟩, hT, hMv⟩
                     have HM4 := Lib.hid (HM3.out.drew.next (HM3.out.drew.svc.tabs hT hMv) hMv (fun k hk => .inl (.inr (.inl hk))) HM3.out.ow)
                     clear hT hMv HM3 x1 x8 c0)
        have x8 := HM4.out.cb 8 _ rfl
        have c1 := HM4.out.svc.c1
        have hfo := forgive_dead HM4.out.drew.svc.book c.other hlt.1 hlt.2
        refine wp_region_still_tail 7 (by kernel_rfl) (by kernel_rfl) ?_
        simp only [List.take_succ_cons, List.take_zero, List.drop_succ_cons, List.drop_zero]
        iterate 7 still_step
        refine wpStill_nil ?_
        go_wp2_with (go_at_call 136; refine hfo.mono ?_; clear hfo; rintro e w4 ⟨rfl, hB, hMv⟩
                     have HM5 := Lib.hid (HM4.out.drew.next (HM4.out.drew.svc.books hB hMv) hMv (fun k hk => .inl (.inr (.inr (.inl hk)))) HM4.out.ow)
                     clear hB hMv HM4 x8 c1)
        have x8 := HM5.out.cb 8 _ rfl
        have c4 := HM5.out.svc.c4
        refine wp_region_still_tail 6 (by kernel_rfl) (by kernel_rfl) ?_
        simp only [List.take_succ_cons, List.take_zero, List.drop_succ_cons, List.drop_zero]
        iterate 6 still_step
        refine wpStill_nil ?_
        have hma : IMap Tryd.prog 3 w4.drew mb n (byV s.by') := HM5.out.drew.svc.ma
        have hwf : (Lit.int .i64 (c.other : Int)).wf = true := WalkArith.wf_i64 (by omega)
        refine wpList_drop_int _ Tryd.underlying3 rfl (.tmp 53) (.tmp 55) 65 rfl Tryd.underlying65 mb n (byV s.by') rfl hma (c.other : Int) rfl hwf ?_
        intro w5 ht hm
        clear hma hwf
        rw [show (fun x : Int => if x = (c.other : Int) then none else byV s.by' x) = byV (updO s.by' c.other none) from byV_upd s.by' c.other none] at ht
        have HM6 := Lib.hid (HM5.out.drew.next (HM5.out.drew.svc.maps ht hm) hm (fun k hk => .inl (.inr (.inr (.inr (.inl hk))))) HM5.out.ow)
        clear ht hm HM5 x8 c4
        have hsv := serve_any HM6.out.svc ⟨small_set hs.R _ _ _ (fun _ => 0) fun _ _ => by omega, hs.w, hs.n, hs.l, updO_lt hs.y _ _ fun x hx => by cases hx⟩ none 0 0
        unfold ans at hsv
        go_wp2_with (go_at_call 126; refine hsv.mono ?_; clear hsv
                     rintro e w9 ⟨⟨v, rfl, ve, vn, a1, a2, a3, n1, n2, n3, q1, q2, q3, rfl⟩, wv', hS3, hM3, ho3⟩
                     have HM7 := Lib.hid (HM6.out.next hS3 hM3 (fun k hk => by rcases hk with hk | hk; exact .inl (.inr (.inl hk)); exact .inl (.inl hk)) (fun k hk => .inr (Nat.le_trans HM6.out.sz (ho3 k hk))))
                     clear hS3 hM3 ho3 HM6
                     unfold ans
                     obtain ⟨u0, r0⟩ := HM7.out.r 0 (by omega)
                     obtain ⟨u1, r1⟩ := HM7.out.r 1 (by omega)
                     obtain ⟨u2, r2⟩ := HM7.out.r 2 (by omega)
                     obtain ⟨u3, r3⟩ := HM7.out.r 3 (by omega)
                     obtain ⟨u4, r4⟩ := HM7.out.r 4 (by omega)
                     have p0 := HM7.out.rf 0
                     have p1 := HM7.out.rf 1
                     have p2 := HM7.out.rf 2
                     have p3 := HM7.out.rf 3
                     have p4 := HM7.out.rf 4)
        obtain ⟨z0, z1, z2, z3, z4⟩ := set5_cells (B := w.heap.size + 1) (.int .i64 ve) (.int .i64 vn) (.slice a1 n1 q1) (.slice a2 n2 q2) (.slice a3 n3 q3) HM7.out.r
        refine bodyPost_ret (v := .agg #[.int .i64 ve, .int .i64 vn, .slice a1 n1 q1, .slice a2 n2 q2, .slice a3 n3 q3]) (by simp [results, Tryd.results117, go_sem, z0, z1, z2, z3, z4]) rfl ?_
        exact HM7.out.fin (by omega) _ _ _ _ _ rfl (ansv _ _ _ _ _ _ _ _ _ _ _)
set_option maxRecDepth 100000 in
set_option maxHeartbeats 4000000 in
theorem sw1_any {B : Nat} {K : Nat → Ent} (hbx : w.cell? ⟨B, 0, none⟩ = some (.pointer (some ⟨b, 0, none⟩))) (c1 : w.cell? ⟨b, 1, none⟩ = some (.pointer (some ⟨kb, 0, none⟩))) (hk : IsBook w kb K) (x : Hd) : Calls Tryd.prog 131 #[x.val, .pointer (some ⟨B, 0, none⟩)] w fun e w' => e = .returned (.bool (deadB K x.c)) ∧ Below w.heap.size w w' := by
  obtain ⟨X, hX⟩ : ∃ X, X = w.alloc (.cells #[.int .i64 (x.a : Int), .int .i64 (x.b : Int), .int .i64 (x.c : Int), .int .i64 (x.m : Int)] 57) := ⟨_, rfl⟩
  have hb : Below w.heap.size w X := by rw [hX]; exact (Below.refl _ _).alloc (Nat.le_refl _) _
  have q1 : X.cell? ⟨B, 0, none⟩ = some (.pointer (some ⟨b, 0, none⟩)) := (World.cell?_of_block (a := ⟨B, 0, none⟩) (hb.block B (World.block_lt_of_cell? w _ hbx))).trans hbx
  have q2 : X.cell? ⟨b, 1, none⟩ = some (.pointer (some ⟨kb, 0, none⟩)) := (World.cell?_of_block (a := ⟨b, 1, none⟩) (hb.block b (World.block_lt_of_cell? w _ c1))).trans c1
  have q3 : X.cell? ⟨w.heap.size, 2, none⟩ = some (.int .i64 (x.c : Int)) := by rw [hX, World.cell?_alloc_new]; rfl
  have hd := bdead_any (w := X.drew) ((hk.keep (hb.block kb hk.lt)).keep rfl) x.c
  have HB := Lib.hid hb
  have HX := Lib.hid hX
  clear hb hX hk hbx c1
  unfold Hd.val
  go_enter Tryd.func131, Tryd.ntmps131
  go_wp2_with fail
  rw [← HX.out]
  refine wp_region_still_tail 8 (by kernel_rfl) (by kernel_rfl) ?_
  simp only [List.take_succ_cons, List.take_zero, List.drop_succ_cons, List.drop_zero]
  iterate 7 still_step
  still_call (hd.mono fun e w' ⟨he, hw⟩ => ⟨he, hw.symm⟩)
  refine wpStill_nil ?_
  go_wp2_with fail
  go_ret
  exact ⟨rfl, HB.out.drew⟩
set_option maxRecDepth 100000 in
set_option maxHeartbeats 4000000 in
theorem gsweep_any (h : IsSvc w b tb kb mb wv n s) (hs : s.Ok) (c : Cm) : Calls Tryd.prog 115 #[.pointer (some ⟨b, 0, none⟩), c.val] w (MPost w b tb kb mb wv n (s.sweep c)) := by
  obtain ⟨wa, wc, rfl⟩ := row_lens h.row
  obtain ⟨w0, hw0⟩ : ∃ w0, w0 = w.alloc (.cells #[.pointer (some ⟨b, 0, none⟩)] 25) := ⟨_, rfl⟩
  have hb0 : Below w.heap.size w w0 := by rw [hw0]; exact (Below.refl _ _).alloc (Nat.le_refl _) _
  have hz0 : w0.heap.size = w.heap.size + 1 := by rw [hw0]; simp
  have hq0 : w0.cell? ⟨w.heap.size, 0, none⟩ = some (.pointer (some ⟨b, 0, none⟩)) := by rw [hw0, World.cell?_alloc_new]; rfl
  have hflw := h.lt
  have hM := MB.made (h.below hb0) c
  have hbox : ∀ (X : World) (wv' : Value) (n' : Nat) (s' : GS), MB w0 X b tb kb mb (.slice wa s.wait.length wc) wv' n' s' c → X.cell? ⟨w.heap.size, 0, none⟩ = some (.pointer (some ⟨b, 0, none⟩)) := fun X wv' n' s' hM => (World.cell?_of_block (a := ⟨w.heap.size, 0, none⟩) (hM.mv.block w.heap.size (by omega) (fun hf => by have := hflw _ hf; omega))).trans hq0
  obtain ⟨X, hX⟩ : ∃ X, X = ((w0.alloc (.cells c.cells.toArray 36)).alloc (.cells #[.int .i64 0, .int .i64 0, .slice none 0 0, .slice none 0 0, .slice none 0 0] 111)) := ⟨_, rfl⟩
  rw [← hX] at hM
  have x3 := hM.cb 3 _ rfl
  have bx := hbox _ _ _ _ hM
  have c1 := hM.svc.c1
  have HM := Lib.hid hM
  have HBOX := Lib.hid hbox
  have HB0 := Lib.hid hb0
  have hmix : Tryd.prog.follows .mixedOrders = true := by kernel_rfl
  have hsw := sweep_any hM.drew.svc.book (c.now : Int)
  have Hfl := Lib.hid hflw
  unfold Cm.cells at hX
  have HX := Lib.hid hX
  have HW0 := Lib.hid hw0
  have HZ0 := Lib.hid hz0
  clear hM h hX hbox hb0 hq0 hflw hw0 hz0
  unfold Cm.val
  refine Calls.mono (R := MPost w0 b tb kb mb (.slice wa s.wait.length wc) n (s.sweep c)) ?_ ?_
  case refine_2 =>
    rintro e w' ⟨hv, wv', n', hn, hS, hMv, ho⟩
    exact ⟨hv, wv', n', hn, hS, (Moves.of_below HB0.out).trans hMv fun i hi => .inl hi, fun k hk => by rcases ho k hk with h1 | h1; exact .inl h1; exact .inr (by have := HZ0.out; omega)⟩
  unfold GS.sweep
  obtain ⟨L, hL⟩ : ∃ L, L = (s.wait.filter fun x => !deadB (sweepK s.B c.now 8) x.c) := ⟨_, rfl⟩
  have hok4 : (GS.mk s.R (sweepK s.B c.now 8) L s.last s.by').Ok := by rw [hL]; exact hs.sub hs.R _ _ hs.y
  rw [← hL]
  have HL := Lib.hid hL
  clear hL
  go_enter Tryd.func115, Tryd.ntmps115
  go_wp2_with fail

  rw [← HW0.out, ← HZ0.out]
  rw [← HX.out]
  refine wp_region_still_tail 7 (by kernel_rfl) (by kernel_rfl) ?_
  simp only [List.take_succ_cons, List.take_zero, List.drop_succ_cons, List.drop_zero]
  iterate 7 still_step
  refine wpStill_nil ?_
  go_wp2_with (go_at_call 129; refine hsw.mono ?_; clear hsw; rintro e w2 ⟨⟨v2, rfl, k2, xs2, ho2⟩, hB2, hM2⟩
               obtain ⟨a2, q2, rfl⟩ := row_lens ho2
               clear ho2
               have HM2 := Lib.hid (HM.out.drew.next (HM.out.drew.svc.books hB2 hM2) hM2 (fun k hk => .inl (.inr (.inr (.inl hk)))) HM.out.ow)
               clear hB2 hM2 HM x3 bx c1)
  have hMd := HM2.out.drew
  have bx := HBOX.out _ _ _ _ hMd
  have c2 := hMd.svc.c2
  have f2 := hMd.svc.fro 2
  have hde := delete_any hMd.svc.row (by have := hs.n; show s.wait.length ≤ _; omega) 131 #[.pointer (some ⟨w.heap.size, 0, none⟩)] (fun x => deadB (sweepK s.B c.now 8) x.c) (enters_of Tryd.func131 (by kernel_rfl) rfl) (fun y W _ hM => sw1_any ((World.cell?_of_block (a := ⟨w.heap.size, 0, none⟩) (hM.block _ (World.block_lt_of_cell? _ _ (HBOX.out _ _ _ _ hMd)) (fun e => by have := Hfl.out _ (.inr (.inr (.inr (.inr e)))); simp at this))).trans (HBOX.out _ _ _ _ hMd)) ((World.cell?_of_block (a := ⟨b, 1, none⟩) (hM.block _ (World.block_lt_of_cell? _ _ hMd.svc.c1) (fun e => (hMd.svc.d2 _ e).1 rfl))).trans hMd.svc.c1) (hMd.svc.book.keep (hM.block _ hMd.svc.book.lt (fun e => (hMd.svc.d2 _ e).2.2.1 rfl))) y)
  dsimp only at hde
  rw [← HL.out] at hde
  have HMd := Lib.hid hMd
  clear hMd HM2
  refine wp_region_held_drew (S := fun W => W.cell? ⟨w.heap.size, 0, none⟩ = some (.pointer (some ⟨b, 0, none⟩))) hmix bx (fun hHeld => ?_)
  refine wpAnyH_take (i := 0) (oi := ⟨_, _, _, _, _, _⟩) (v := .pointer (some ⟨b, 0, none⟩)) rfl (by kernel_rfl) (by kernel_rfl) (by kernel_rfl) (fun _ _ _ h => h) (Or.inl ⟨by rfl, fun W hW => by have h2 := hW; go_simp⟩) hHeld ?_
  try simp only [Act.put, List.setIfInBounds_toArray, List.set_cons_zero, List.set_cons_succ]
  refine wpAnyH_take (i := 1) (oi := ⟨_, _, _, _, _, _⟩) (v := .pointer (some ⟨b, 0, none⟩)) rfl (by kernel_rfl) (by kernel_rfl) (by kernel_rfl) (fun _ _ _ h => h) (Or.inl ⟨by rfl, fun W hW => by have h2 := hW; go_simp⟩) hHeld ?_
  try simp only [Act.put, List.setIfInBounds_toArray, List.set_cons_zero, List.set_cons_succ]
  refine wpAnyH_take (i := 2) (oi := ⟨_, _, _, _, _, _⟩) (v := .pointer (some ⟨b, 0, none⟩)) rfl (by kernel_rfl) (by kernel_rfl) (by kernel_rfl) (fun _ _ _ h => h) (Or.inl ⟨by rfl, fun _ _ => by go_simp⟩) hHeld ?_
  try simp only [Act.put, List.setIfInBounds_toArray, List.set_cons_zero, List.set_cons_succ]
  refine wpAnyH_take (i := 3) (oi := ⟨_, _, _, _, _, _⟩) (v := .pointer (some ⟨b, 2, none⟩)) rfl (by kernel_rfl) (by kernel_rfl) (by kernel_rfl) (fun _ _ _ h => h) (Or.inl ⟨by rfl, fun _ _ => by go_simp⟩) hHeld ?_
  try simp only [Act.put, List.setIfInBounds_toArray, List.set_cons_zero, List.set_cons_succ]
  refine wpAnyH_take (i := 5) (oi := ⟨_, _, _, _, _, _⟩) (v := .func (.func 131) #[] #[.pointer (some ⟨w.heap.size, 0, none⟩)]) rfl (by kernel_rfl) (by kernel_rfl) (by kernel_rfl) (fun _ _ _ h => h) (Or.inl ⟨by rfl, fun _ _ => by go_simp⟩) hHeld ?_
  try simp only [Act.put, List.setIfInBounds_toArray, List.set_cons_zero, List.set_cons_succ]
  refine wpAnyH_ready (rs := [4]) (by kernel_rfl) (by simp) (AllReadyH.cons (o := ⟨_, _, _, _, _, _⟩) rfl (fun K hK => ?_) AllReadyH.nil)
  rw [if_pos (by rfl)]
  go_simp
  refine hK.out _ _ hHeld (fun hHeld => ?_)
  clear hK K
  try simp only [Act.put, List.setIfInBounds_toArray, List.set_cons_zero, List.set_cons_succ]
  refine wpAnyH_ready (rs := [6]) (by kernel_rfl) (by simp) (AllReadyH.cons (o := ⟨_, _, _, _, _, _⟩) rfl (fun K hK => ?_) AllReadyH.nil)
  rw [if_pos (by rfl)]
  go_simp
  refine hde.mono ?_
  clear hde
  rintro e w3 ⟨v3, rfl, ho3, hob3, hm3⟩
  obtain ⟨v3a, v3c, rfl⟩ := row_lens ho3
  have c2' : w3.cell? ⟨b, 2, none⟩ = some (.slice wa s.wait.length wc) := (World.cell?_of_block (a := ⟨b, 2, none⟩) (hm3.block b (World.block_lt_of_cell? _ _ HMd.out.svc.c2) (fun e => (HMd.out.svc.d2 _ e).1 rfl))).trans HMd.out.svc.c2
  have f2' : w3.frozen? ⟨b, 2, none⟩ = false := (World.frozen?_of_block (a := ⟨b, 2, none⟩) (hm3.block b (World.block_lt_of_cell? _ _ HMd.out.svc.c2) (fun e => (HMd.out.svc.d2 _ e).1 rfl))).trans (HMd.out.svc.fro 2)
  have hx3 : w3.cell? ⟨w.heap.size, 0, none⟩ = some (.pointer (some ⟨b, 0, none⟩)) := (World.cell?_of_block (a := ⟨w.heap.size, 0, none⟩) (hm3.block _ (World.block_lt_of_cell? _ _ hHeld) (fun e => by have := Hfl.out _ (.inr (.inr (.inr (.inr e)))); simp at this))).trans hHeld
  refine hK.out _ _ hx3 (fun hHeld => ?_)
  clear hK K
  have hne : b ≠ w.heap.size := fun e => by have := Hfl.out b (.inl rfl); omega
  have HM4 := Lib.hid (HMd.out.next (HMd.out.svc.rows hm3 ho3 hob3) ((hm3.mono (F' := fun k => fps b tb kb mb (.slice wa s.wait.length wc) k) fun k _ hk => .inr (.inr (.inr (.inr hk)))).setCell ⟨b, 2, none⟩ _ (.inl (.inl rfl))) (fun k hk => .inl hk) (fun k hk => .inl (hob3 ▸ hk)))
  clear ho3 hob3 hm3 HMd
  try simp only [Act.put, List.setIfInBounds_toArray, List.set_cons_zero, List.set_cons_succ]
  refine wpAnyH_take (i := 7) (oi := ⟨_, _, _, _, _, _⟩) (v := .pointer (some ⟨b, 0, none⟩)) rfl (by kernel_rfl) (by kernel_rfl) (by kernel_rfl) (fun _ _ _ h => h) (Or.inl ⟨by rfl, fun _ _ => by go_simp⟩) hHeld ?_
  try simp only [Act.put, List.setIfInBounds_toArray, List.set_cons_zero, List.set_cons_succ]
  refine wpAnyH_take (i := 8) (oi := ⟨_, _, _, _, _, _⟩) (v := .pointer (some ⟨b, 2, none⟩)) rfl (by kernel_rfl) (by kernel_rfl) (by kernel_rfl) (fun _ _ _ h => h) (Or.inl ⟨by rfl, fun _ _ => by go_simp⟩) hHeld ?_
  try simp only [Act.put, List.setIfInBounds_toArray, List.set_cons_zero, List.set_cons_succ]
  refine wpAnyH_ready (rs := [9]) (by kernel_rfl) (by simp) (AllReadyH.cons (o := ⟨_, _, _, _, _, _⟩) rfl (fun K hK => ?_) AllReadyH.nil)
  rw [if_pos (by rfl)]
  go_simp
  refine hK.out _ _ (by rw [World.cell?_setCell_other _ _ _ _ (by intro e; injection e with e1 _; omega)]; exact hx3) (fun _ => ?_)
  clear hK K
  try simp only [Act.put, List.setIfInBounds_toArray, List.set_cons_zero, List.set_cons_succ]
  refine wpAnyH_done (by kernel_rfl) ?_ _
  have bx4 := HBOX.out _ _ _ _ HM4.out
  clear hx3 hHeld c2' f2' c2 f2 bx
  generalize w3.setCell ⟨b, 2, none⟩ (.slice v3a L.length v3c) = w4 at HM4 bx4 ⊢
  have hsv := serve_any HM4.out.svc hok4 a2 k2 q2
  unfold ans at hsv
  go_wp2_with (go_at_call 126; refine hsv.mono ?_; clear hsv
               rintro e w9 ⟨⟨v, rfl, ve, vn, a1, a2, a3, n1, n2, n3, q1, q2, q3, rfl⟩, wv', hS3, hM3, ho3⟩
               have HM5 := Lib.hid (HM4.out.next hS3 hM3 (fun k hk => by rcases hk with hk | hk; exact .inl (.inr (.inl hk)); exact .inl (.inl hk)) (fun k hk => .inr (Nat.le_trans HM4.out.sz (ho3 k hk))))
               clear hS3 hM3 ho3 HM4
               unfold ans
               obtain ⟨u0, r0⟩ := HM5.out.r 0 (by omega)
               obtain ⟨u1, r1⟩ := HM5.out.r 1 (by omega)
               obtain ⟨u2, r2⟩ := HM5.out.r 2 (by omega)
               obtain ⟨u3, r3⟩ := HM5.out.r 3 (by omega)
               obtain ⟨u4, r4⟩ := HM5.out.r 4 (by omega)
               have p0 := HM5.out.rf 0
               have p1 := HM5.out.rf 1
               have p2 := HM5.out.rf 2
               have p3 := HM5.out.rf 3
               have p4 := HM5.out.rf 4)
  obtain ⟨z0, z1, z2, z3, z4⟩ := set5_cells (B := w0.heap.size + 1) (.int .i64 ve) (.int .i64 vn) (.slice a1 n1 q1) (.slice a2 n2 q2) (.slice a3 n3 q3) HM5.out.r
  refine bodyPost_ret (v := .agg #[.int .i64 ve, .int .i64 vn, .slice a1 n1 q1, .slice a2 n2 q2, .slice a3 n3 q3]) (by simp [results, Tryd.results115, go_sem, z0, z1, z2, z3, z4]) rfl ?_
  exact HM5.out.fin (Nat.le_succ n) _ _ _ _ _ rfl (ansv _ _ _ _ _ _ _ _ _ _ _)
set_option maxRecDepth 100000 in
set_option maxHeartbeats 4000000 in
theorem gcancel_any (h : IsSvc w b tb kb mb wv n s) (hs : s.Ok) (c : Cm) : Calls Tryd.prog 118 #[.pointer (some ⟨b, 0, none⟩), c.val] w (MPost w b tb kb mb wv n (s.cancel c)) := by
  obtain ⟨wa, wc, rfl⟩ := row_lens h.row
  have hflw := h.lt
  have hM := MB.made h c
  have c2 := hM.svc.c2
  have HM := Lib.hid hM
  have hde := delete_any hM.svc.row (by have := hs.n; show s.wait.length ≤ _; omega) 137 #[.pointer (some ⟨w.heap.size, 0, none⟩)] (fun x => decide (x.c = c.client)) (enters_of Tryd.func137 (by kernel_rfl) rfl) (fun y W _ hm => can1_any W w.heap.size c.client ((World.cell?_of_block (a := ⟨w.heap.size, 1, none⟩) (hm.block _ (World.block_lt_of_cell? _ _ (HM.out.cb 1 _ rfl)) (fun e => by have := hflw _ (.inr (.inr (.inr (.inr e)))); simp at this))).trans (HM.out.cb 1 _ rfl)) y)
  have Hfl := Lib.hid hflw
  unfold Cm.cells at HM c2 hde
  have hcl := fun W => gclient_any (w := W) c.client
  clear hM h hflw
  unfold Cm.val
  have hcn : (s.wait.filter fun x => !decide (x.c = c.client)).length ≠ s.wait.length → c.client < 8 := fun h => by
    refine Classical.byContradiction fun hc => h ?_
    rw [List.filter_eq_self.2 fun x hx => ?_]
    have := (hs.w x hx).c
    have e : ¬ x.c = c.client := fun e => by rw [e] at this; exact hc this
    rw [decide_eq_false e]
    rfl
  by_cases hlen : (s.wait.filter fun x => !decide (x.c = c.client)).length = s.wait.length
  · have hf : (s.wait.filter fun x => !decide (x.c = c.client)) = s.wait := List.filter_eq_self.2 (List.length_filter_eq_length_iff.1 hlen)
    have hrel : s.cancel c = s := by unfold GS.cancel; rw [if_neg (fun e => e.2 hlen)]
    rw [hrel]
    rw [hf] at hde
    clear hrel hf hcn hlen
    have e2 : ((s.wait.length : Int) == (s.wait.length : Int)) = true := by simp
    by_cases hc : c.client < 8
    · rw [decide_eq_true hc] at hcl
      go_enter Tryd.func118, Tryd.ntmps118
      go_wp2_with (first
        | (go_at_call 130; refine hde.mono ?_; clear hde; rintro e w3 ⟨v3, rfl, ho3, hob3, hm3⟩
           obtain ⟨v3a, v3c, rfl⟩ := row_lens ho3
           have c2' : w3.cell? ⟨b, 2, none⟩ = some (.slice wa s.wait.length wc) := (World.cell?_of_block (a := ⟨b, 2, none⟩) (hm3.block b (World.block_lt_of_cell? _ _ HM.out.svc.c2) (fun e => (HM.out.svc.d2 _ e).1 rfl))).trans HM.out.svc.c2
           have f2' : w3.frozen? ⟨b, 2, none⟩ = false := (World.frozen?_of_block (a := ⟨b, 2, none⟩) (hm3.block b (World.block_lt_of_cell? _ _ HM.out.svc.c2) (fun e => (HM.out.svc.d2 _ e).1 rfl))).trans (HM.out.svc.fro 2)
           have hne : b ≠ w.heap.size := fun e => by have := Hfl.out b (.inl rfl); omega
           have HM4 := Lib.hid (HM.out.next (HM.out.svc.rows hm3 ho3 hob3) ((hm3.mono (F' := fun k => fps b tb kb mb (.slice wa s.wait.length wc) k) fun k _ hk => .inr (.inr (.inr (.inr hk)))).setCell ⟨b, 2, none⟩ _ (.inl (.inl rfl))) (fun k hk => .inl hk) (fun k hk => .inl (hob3 ▸ hk)))
           have x1 : w3.cell? ⟨w.heap.size, 1, none⟩ = some (.int .i64 (c.client : Int)) := by have := HM4.out.cb 1 _ rfl; rwa [World.cell?_setCell_other _ _ _ _ (by intro e; injection e with e1 _; omega)] at this
           clear ho3 hob3 hm3 HM c2)
        | (go_at_call 119; refine (hcl _).mono ?_; clear hcl; rintro e w4 ⟨rfl, hw⟩; rw [hw] at HM4; clear hw
           clear c2' f2' x1
           have c2 := HM4.out.svc.c2
           obtain ⟨u0, r0⟩ := HM4.out.r 0 (by omega)
           obtain ⟨u1, r1⟩ := HM4.out.r 1 (by omega)
           obtain ⟨u2, r2⟩ := HM4.out.r 2 (by omega)
           obtain ⟨u3, r3⟩ := HM4.out.r 3 (by omega)
           obtain ⟨u4, r4⟩ := HM4.out.r 4 (by omega)
           have p0 := HM4.out.rf 0
           have p1 := HM4.out.rf 1
           have p2 := HM4.out.rf 2
           have p3 := HM4.out.rf 3
           have p4 := HM4.out.rf 4))
      obtain ⟨z0, z1, z2, z3, z4⟩ := set5_cells (B := w.heap.size + 1) (.int .i64 3) (.int .i64 0) (.slice none 0 0) (.slice none 0 0) (.slice none 0 0) HM4.out.r
      refine bodyPost_ret (v := .agg #[.int .i64 3, .int .i64 0, .slice none 0 0, .slice none 0 0, .slice none 0 0]) (by simp [results, Tryd.results118, go_sem, z0, z1, z2, z3, z4]) rfl ?_
      exact HM4.out.fin (by omega) _ _ _ _ _ rfl (ansv _ _ _ _ _ _ _ _ _ _ _)
    · rw [decide_eq_false hc] at hcl
      go_enter Tryd.func118, Tryd.ntmps118
      go_wp2_with (first
        | (go_at_call 130; refine hde.mono ?_; clear hde; rintro e w3 ⟨v3, rfl, ho3, hob3, hm3⟩
           obtain ⟨v3a, v3c, rfl⟩ := row_lens ho3
           have c2' : w3.cell? ⟨b, 2, none⟩ = some (.slice wa s.wait.length wc) := (World.cell?_of_block (a := ⟨b, 2, none⟩) (hm3.block b (World.block_lt_of_cell? _ _ HM.out.svc.c2) (fun e => (HM.out.svc.d2 _ e).1 rfl))).trans HM.out.svc.c2
           have f2' : w3.frozen? ⟨b, 2, none⟩ = false := (World.frozen?_of_block (a := ⟨b, 2, none⟩) (hm3.block b (World.block_lt_of_cell? _ _ HM.out.svc.c2) (fun e => (HM.out.svc.d2 _ e).1 rfl))).trans (HM.out.svc.fro 2)
           have hne : b ≠ w.heap.size := fun e => by have := Hfl.out b (.inl rfl); omega
           have HM4 := Lib.hid (HM.out.next (HM.out.svc.rows hm3 ho3 hob3) ((hm3.mono (F' := fun k => fps b tb kb mb (.slice wa s.wait.length wc) k) fun k _ hk => .inr (.inr (.inr (.inr hk)))).setCell ⟨b, 2, none⟩ _ (.inl (.inl rfl))) (fun k hk => .inl hk) (fun k hk => .inl (hob3 ▸ hk)))
           have x1 : w3.cell? ⟨w.heap.size, 1, none⟩ = some (.int .i64 (c.client : Int)) := by have := HM4.out.cb 1 _ rfl; rwa [World.cell?_setCell_other _ _ _ _ (by intro e; injection e with e1 _; omega)] at this
           clear ho3 hob3 hm3 HM c2)
        | (go_at_call 119; refine (hcl _).mono ?_; clear hcl; rintro e w4 ⟨rfl, hw⟩; rw [hw] at HM4; clear hw
           clear c2' f2' x1
           have c2 := HM4.out.svc.c2
           obtain ⟨u0, r0⟩ := HM4.out.r 0 (by omega)
           obtain ⟨u1, r1⟩ := HM4.out.r 1 (by omega)
           obtain ⟨u2, r2⟩ := HM4.out.r 2 (by omega)
           obtain ⟨u3, r3⟩ := HM4.out.r 3 (by omega)
           obtain ⟨u4, r4⟩ := HM4.out.r 4 (by omega)
           have p0 := HM4.out.rf 0
           have p1 := HM4.out.rf 1
           have p2 := HM4.out.rf 2
           have p3 := HM4.out.rf 3
           have p4 := HM4.out.rf 4))
      obtain ⟨z0, z1, z2, z3, z4⟩ := set5_cells (B := w.heap.size + 1) (.int .i64 1) (.int .i64 0) (.slice none 0 0) (.slice none 0 0) (.slice none 0 0) HM4.out.r
      refine bodyPost_ret (v := .agg #[.int .i64 1, .int .i64 0, .slice none 0 0, .slice none 0 0, .slice none 0 0]) (by simp [results, Tryd.results118, go_sem, z0, z1, z2, z3, z4]) rfl ?_
      exact HM4.out.fin (by omega) _ _ _ _ _ rfl (ansv _ _ _ _ _ _ _ _ _ _ _)
  · have hc := hcn hlen
    have hrel : s.cancel c = GS.serve ⟨s.R, s.B, s.wait.filter (fun x => !decide (x.c = c.client)), s.last, s.by'⟩ := by unfold GS.cancel; rw [if_pos ⟨hc, hlen⟩]
    rw [hrel]
    have hok4 : (GS.mk s.R s.B (s.wait.filter fun x => !decide (x.c = c.client)) s.last s.by').Ok := hs.sub hs.R _ _ hs.y
    generalize hgl : (s.wait.filter fun x => !decide (x.c = c.client)) = L at hde hok4 hlen ⊢
    have e2 : ((L.length : Int) == (s.wait.length : Int)) = false := by simp; omega
    rw [decide_eq_true hc] at hcl
    clear hrel hcn hgl
    go_enter Tryd.func118, Tryd.ntmps118
    go_wp2_with (first
      | (go_at_call 130; refine hde.mono ?_; clear hde; rintro e w3 ⟨v3, rfl, ho3, hob3, hm3⟩
         obtain ⟨v3a, v3c, rfl⟩ := row_lens ho3
         have c2' : w3.cell? ⟨b, 2, none⟩ = some (.slice wa s.wait.length wc) := (World.cell?_of_block (a := ⟨b, 2, none⟩) (hm3.block b (World.block_lt_of_cell? _ _ HM.out.svc.c2) (fun e => (HM.out.svc.d2 _ e).1 rfl))).trans HM.out.svc.c2
         have f2' : w3.frozen? ⟨b, 2, none⟩ = false := (World.frozen?_of_block (a := ⟨b, 2, none⟩) (hm3.block b (World.block_lt_of_cell? _ _ HM.out.svc.c2) (fun e => (HM.out.svc.d2 _ e).1 rfl))).trans (HM.out.svc.fro 2)
         have hne : b ≠ w.heap.size := fun e => by have := Hfl.out b (.inl rfl); omega
         have HM4 := Lib.hid (HM.out.next (HM.out.svc.rows hm3 ho3 hob3) ((hm3.mono (F' := fun k => fps b tb kb mb (.slice wa s.wait.length wc) k) fun k _ hk => .inr (.inr (.inr (.inr hk)))).setCell ⟨b, 2, none⟩ _ (.inl (.inl rfl))) (fun k hk => .inl hk) (fun k hk => .inl (hob3 ▸ hk)))
         have x1 : w3.cell? ⟨w.heap.size, 1, none⟩ = some (.int .i64 (c.client : Int)) := by have := HM4.out.cb 1 _ rfl; rwa [World.cell?_setCell_other _ _ _ _ (by intro e; injection e with e1 _; omega)] at this
         clear ho3 hob3 hm3 HM c2)
      | (go_at_call 119; refine (hcl _).mono ?_; clear hcl; rintro e w4 ⟨rfl, hw⟩; rw [hw] at HM4; clear hw
         clear c2' f2' x1
         have c2 := HM4.out.svc.c2
    ))
    have hsv := serve_any HM4.out.svc hok4 none 0 0
    unfold ans at hsv
    go_wp2_with (go_at_call 126; refine hsv.mono ?_; clear hsv
                 rintro e w9 ⟨⟨v, rfl, ve, vn, a1, a2, a3, n1, n2, n3, q1, q2, q3, rfl⟩, wv', hS3, hM3, ho3⟩
                 have HM5 := Lib.hid (HM4.out.next hS3 hM3 (fun k hk => by rcases hk with hk | hk; exact .inl (.inr (.inl hk)); exact .inl (.inl hk)) (fun k hk => .inr (Nat.le_trans HM4.out.sz (ho3 k hk))))
                 clear hS3 hM3 ho3 HM4
                 unfold ans
                 obtain ⟨u0, r0⟩ := HM5.out.r 0 (by omega)
                 obtain ⟨u1, r1⟩ := HM5.out.r 1 (by omega)
                 obtain ⟨u2, r2⟩ := HM5.out.r 2 (by omega)
                 obtain ⟨u3, r3⟩ := HM5.out.r 3 (by omega)
                 obtain ⟨u4, r4⟩ := HM5.out.r 4 (by omega)
                 have p0 := HM5.out.rf 0
                 have p1 := HM5.out.rf 1
                 have p2 := HM5.out.rf 2
                 have p3 := HM5.out.rf 3
                 have p4 := HM5.out.rf 4)
    obtain ⟨z0, z1, z2, z3, z4⟩ := set5_cells (B := w.heap.size + 1) (.int .i64 ve) (.int .i64 vn) (.slice a1 n1 q1) (.slice a2 n2 q2) (.slice a3 n3 q3) HM5.out.r
    refine bodyPost_ret (v := .agg #[.int .i64 ve, .int .i64 vn, .slice a1 n1 q1, .slice a2 n2 q2, .slice a3 n3 q3]) (by simp [results, Tryd.results118, go_sem, z0, z1, z2, z3, z4]) rfl ?_
    exact HM5.out.fin (by omega) _ _ _ _ _ rfl (ansv _ _ _ _ _ _ _ _ _ _ _)
end
end Go.Proofs.YtfjfkmoofmncnaaDoor
