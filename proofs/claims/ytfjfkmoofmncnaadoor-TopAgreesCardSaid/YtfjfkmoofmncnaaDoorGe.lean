/- The commands' methods: recover, done. -/
import Derived.Test.YtfjfkmoofmncnaaDoorGd
namespace Go.Proofs.YtfjfkmoofmncnaaDoor
open Go.RowKit
theorem byV_nat (f : Nat → Option Nat) (i : Nat) : byV f (i : Int) = (f i).map (fun x : Nat => .int .i64 (x : Int)) := by unfold byV; simp; cases f i <;> rfl
theorem byV_upd (f : Nat → Option Nat) (i : Nat) (o : Option Nat) : (fun x : Int => if x = (i : Int) then o.map (fun x : Nat => Value.int .i64 (x : Int)) else byV f x) = byV (updO f i o) := by
  funext x
  unfold byV updO
  by_cases h : x = (i : Int)
  · subst h; simp; cases o <;> rfl
  · rw [if_neg h]
    by_cases h0 : 0 ≤ x
    · rw [if_pos h0, if_pos h0, if_neg (by omega)]
    · rw [if_neg h0, if_neg h0]
theorem Tryd.zInt (w : World) : (zeroValue 3).run Tryd.prog w = .ok (.int .i64 0) w := by kernel_rfl
section
variable {w X X' : World} {b tb kb mb n n' : Nat} {wv0 wv wv' : Value} {s s' : GS} {c : Cm}
theorem look_by (h : IsSvc w b tb kb mb wv n s) (i : Nat) (hi : i < 1000) : (Instr.lookup 65 (.map (some mb)) (.int .i64 (i : Int)) true).run Tryd.prog w = .ok (.tuple #[((s.by' i).map fun x : Nat => Value.int .i64 (x : Int)).getD (.int .i64 0), .bool (s.by' i).isSome]) w := by
  obtain ⟨f, h1, h2⟩ := h.ma
  have := h1.look (Maps.int_keyed Tryd.underlying3) Tryd.underlying65 (Tryd.zInt w) (Maps.keyOf_int_mk Tryd.underlying3 (WalkArith.wf_i64 (n := (i : Int)) (by omega)))
  rw [this, h2, byV_nat]
  simp
theorem holds_len (R : Nat → Nat → Nat) : (holdsOf R).length ≤ 1000000 := Nat.le_trans (someOf_len R 0 256 _ 8) (by omega)
theorem MB.same (h : MB w X b tb kb mb wv0 wv n s c) (j : Nat) : MB w (X.drewN j) b tb kb mb wv0 wv n s c := h.below ⟨rfl, rfl, rfl, Nat.le_refl _, fun _ _ => rfl⟩
set_option maxRecDepth 100000 in
set_option maxHeartbeats 4000000 in
theorem rec1_any (w : World) (B : Nat) (v : Nat) (hv : w.cell? ⟨B, 8, none⟩ = some (.int .i64 (v : Int))) (x : Hd) : Calls Tryd.prog 134 #[x.val, .pointer (some ⟨B, 0, none⟩)] w fun e w' => e = .returned (.bool (!decide (x.c = v))) ∧ Below w.heap.size w w' := by
  have hb : Below w.heap.size w (w.alloc (.cells #[.int .i64 (x.a : Int), .int .i64 (x.b : Int), .int .i64 (x.c : Int), .int .i64 (x.m : Int)] 57)) := (Below.refl _ _).alloc (Nat.le_refl _) _
  have hv1 : (w.alloc (.cells #[.int .i64 (x.a : Int), .int .i64 (x.b : Int), .int .i64 (x.c : Int), .int .i64 (x.m : Int)] 57)).cell? ⟨B, 8, none⟩ = some (.int .i64 (v : Int)) := (World.cell?_of_block (a := ⟨B, 8, none⟩) (hb.block B (World.block_lt_of_cell? w _ hv))).trans hv
  have e0 : ((x.c : Int) != (v : Int)) = !decide (x.c = v) := by
    by_cases e : x.c = v
    · subst e; simp
    · rw [decide_eq_false e]; simp; omega
  have HB := Lib.hid hb
  clear hb
  unfold Hd.val
  by_cases e : x.c = v
  · rw [decide_eq_true e] at e0 ⊢
    clear e
    go_enter Tryd.func134, Tryd.ntmps134
    go_wp2_with fail
    go_ret
    exact ⟨rfl, HB.out⟩
  · rw [decide_eq_false e] at e0 ⊢
    clear e
    go_enter Tryd.func134, Tryd.ntmps134
    go_wp2_with fail
    go_ret
    exact ⟨rfl, HB.out⟩
set_option maxRecDepth 100000 in
set_option maxHeartbeats 4000000 in
theorem can1_any (w : World) (B : Nat) (v : Nat) (hv : w.cell? ⟨B, 1, none⟩ = some (.int .i64 (v : Int))) (x : Hd) : Calls Tryd.prog 137 #[x.val, .pointer (some ⟨B, 0, none⟩)] w fun e w' => e = .returned (.bool (decide (x.c = v))) ∧ Below w.heap.size w w' := by
  have hb : Below w.heap.size w (w.alloc (.cells #[.int .i64 (x.a : Int), .int .i64 (x.b : Int), .int .i64 (x.c : Int), .int .i64 (x.m : Int)] 57)) := (Below.refl _ _).alloc (Nat.le_refl _) _
  have hv1 : (w.alloc (.cells #[.int .i64 (x.a : Int), .int .i64 (x.b : Int), .int .i64 (x.c : Int), .int .i64 (x.m : Int)] 57)).cell? ⟨B, 1, none⟩ = some (.int .i64 (v : Int)) := (World.cell?_of_block (a := ⟨B, 1, none⟩) (hb.block B (World.block_lt_of_cell? w _ hv))).trans hv
  have e0 : ((x.c : Int) == (v : Int)) = decide (x.c = v) := by
    by_cases e : x.c = v
    · subst e; simp
    · rw [decide_eq_false e]; simp; omega
  have HB := Lib.hid hb
  clear hb
  unfold Hd.val
  by_cases e : x.c = v
  · rw [decide_eq_true e] at e0 ⊢
    clear e
    go_enter Tryd.func137, Tryd.ntmps137
    go_wp2_with fail
    go_ret
    exact ⟨rfl, HB.out⟩
  · rw [decide_eq_false e] at e0 ⊢
    clear e
    go_enter Tryd.func137, Tryd.ntmps137
    go_wp2_with fail
    go_ret
    exact ⟨rfl, HB.out⟩
set_option maxRecDepth 100000 in
set_option maxHeartbeats 4000000 in
theorem ask1_any (w : World) (B : Nat) (v : Nat) (hv : w.cell? ⟨B, 1, none⟩ = some (.int .i64 (v : Int))) (x : Hd) : Calls Tryd.prog 122 #[x.val, .pointer (some ⟨B, 0, none⟩)] w fun e w' => e = .returned (.bool (decide (x.c = v))) ∧ Below w.heap.size w w' := by
  have hb : Below w.heap.size w (w.alloc (.cells #[.int .i64 (x.a : Int), .int .i64 (x.b : Int), .int .i64 (x.c : Int), .int .i64 (x.m : Int)] 57)) := (Below.refl _ _).alloc (Nat.le_refl _) _
  have hv1 : (w.alloc (.cells #[.int .i64 (x.a : Int), .int .i64 (x.b : Int), .int .i64 (x.c : Int), .int .i64 (x.m : Int)] 57)).cell? ⟨B, 1, none⟩ = some (.int .i64 (v : Int)) := (World.cell?_of_block (a := ⟨B, 1, none⟩) (hb.block B (World.block_lt_of_cell? w _ hv))).trans hv
  have e0 : ((x.c : Int) == (v : Int)) = decide (x.c = v) := by
    by_cases e : x.c = v
    · subst e; simp
    · rw [decide_eq_false e]; simp; omega
  have HB := Lib.hid hb
  clear hb
  unfold Hd.val
  by_cases e : x.c = v
  · rw [decide_eq_true e] at e0 ⊢
    clear e
    go_enter Tryd.func122, Tryd.ntmps122
    go_wp2_with fail
    go_ret
    exact ⟨rfl, HB.out⟩
  · rw [decide_eq_false e] at e0 ⊢
    clear e
    go_enter Tryd.func122, Tryd.ntmps122
    go_wp2_with fail
    go_ret
    exact ⟨rfl, HB.out⟩
set_option maxRecDepth 100000 in
set_option maxHeartbeats 4000000 in
theorem grecover_any (h : IsSvc w b tb kb mb wv n s) (hs : s.Ok) (hn : n < 1000000) (c : Cm) (ho : c.other < 1000) : Calls Tryd.prog 116 #[.pointer (some ⟨b, 0, none⟩), c.val] w (MPost w b tb kb mb wv n (s.recover c)) := by
  have hM := MB.made h c
  have hrc := recovg_any hM.svc c
  have HM := Lib.hid hM
  clear hM h
  unfold Cm.cells at HM hrc
  unfold Cm.val at *
  cases hr : s.recov c with
  | false =>
    have e0 : (rcE s c != 0) = true := by have := rcE_zero s c; rw [hr] at this; simpa using this
    have hrel : s.recover c = s := by unfold GS.recover; rw [if_neg (fun e => by rw [hr] at e; exact absurd e.1 (by decide))]
    rw [hrel]
    clear hr hrel
    generalize rcE s c = E at hrc e0
    go_enter Tryd.func116, Tryd.ntmps116
    go_wp2_with (go_at_call 133; refine hrc.mono ?_; clear hrc; rintro e w1 ⟨rfl, hb1⟩
                 have HM2 := Lib.hid (HM.out.below hb1)
                 obtain ⟨u0, r0⟩ := HM2.out.r 0 (by omega)
                 obtain ⟨u1, r1⟩ := HM2.out.r 1 (by omega)
                 obtain ⟨u2, r2⟩ := HM2.out.r 2 (by omega)
                 obtain ⟨u3, r3⟩ := HM2.out.r 3 (by omega)
                 obtain ⟨u4, r4⟩ := HM2.out.r 4 (by omega)
                 have p0 := HM2.out.rf 0
                 have p1 := HM2.out.rf 1
                 have p2 := HM2.out.rf 2
                 have p3 := HM2.out.rf 3
                 have p4 := HM2.out.rf 4)
    obtain ⟨z0, z1, z2, z3, z4⟩ := set5_cells (B := w.heap.size + 1) (.int .i64 E) (.int .i64 0) (.slice none 0 0) (.slice none 0 0) (.slice none 0 0) HM2.out.r
    refine bodyPost_ret (v := .agg #[.int .i64 E, .int .i64 0, .slice none 0 0, .slice none 0 0, .slice none 0 0]) (by simp [results, Tryd.results116, go_sem, z0, z1, z2, z3, z4]) rfl ?_
    exact HM2.out.fin (by omega) _ _ _ _ _ rfl (ansv _ _ _ _ _ _ _ _ _ _ _)
  | true =>
    have e0 : rcE s c = 0 := (rcE_zero s c).2 hr
    rw [e0] at hrc
    clear e0
    cases hby : s.by' c.other with
    | none =>
      have hrel : s.recover c = ⟨s.R, s.B, s.wait, s.last, updO s.by' c.other (some c.client)⟩ := by unfold GS.recover GS.heldB; rw [hby]; simp [hr]
      rw [hrel]
      clear hr hrel
      go_enter Tryd.func116, Tryd.ntmps116
      go_wp2_with (go_at_call 133; refine hrc.mono ?_; clear hrc; rintro e w1 ⟨rfl, hb1⟩
                   have HM2 := Lib.hid (HM.out.below hb1)
                   clear hb1 HM
                   have c4 := HM2.out.svc.c4
                   have x8 := HM2.out.cb 8 _ rfl
                   have hl : ∀ j, (Instr.lookup 65 (.map (some mb)) (.int .i64 (c.other : Int)) true).run Tryd.prog (w1.drewN j) = .ok (.tuple #[.int .i64 0, .bool false]) (w1.drewN j) := fun j => by have := look_by (HM2.out.same j).svc c.other ho; rw [hby] at this; exact this)
      go_quiet (fail)
      have HM3 := Lib.hid (HM2.out.same nq)
      clear HM2 c4 x8 hl
      generalize w1.drewN nq = w2 at HM3 ⊢
      have x1 := HM3.out.cb 1 _ rfl
      clear hby
      go_wp2_with fail
      have x8 := HM3.out.cb 8 _ rfl
      have c4 := HM3.out.svc.c4
      refine wp_region_still_tail 8 (by kernel_rfl) (by kernel_rfl) ?_
      simp only [List.take_succ_cons, List.take_zero, List.drop_succ_cons, List.drop_zero]
      iterate 8 still_step
      refine wpStill_nil ?_
      have hma : IMap Tryd.prog 3 w2.drew mb n (byV s.by') := HM3.out.drew.svc.ma
      have hlt : n < maxLen := by unfold maxLen; omega
      have hwf : (Lit.int .i64 (c.other : Int)).wf = true := WalkArith.wf_i64 (by omega)
      go_wp2_with (at_mapUpdate
                   refine wpList_store_int _ Tryd.underlying3 rfl (.tmp 41) (.tmp 43) (.tmp 45) 65 rfl Tryd.underlying65 mb n (byV s.by') rfl hma hlt (c.other : Int) (.int .i64 (c.client : Int)) rfl rfl hwf ?_)
      clear hma hlt hwf
      intro w3 ht hm
      rw [show (fun x : Int => if x = (c.other : Int) then some (Value.int .i64 (c.client : Int)) else byV s.by' x) = byV (updO s.by' c.other (some c.client)) from byV_upd s.by' c.other (some c.client)] at ht
      have HM4 := Lib.hid (HM3.out.drew.next (HM3.out.drew.svc.maps ht hm) hm (fun k hk => .inl (.inr (.inr (.inr (.inl hk))))) HM3.out.ow)
      clear ht hm HM3 x1 x8 c4
      have c0 := HM4.out.svc.c0
      have hli := slist_any HM4.out.svc.tab hs.R HM4.out.svc.whole
      go_wp2_with (first
         | (go_at_call 41; refine hli.mono ?_; clear hli; rintro e w4 ⟨v4, rfl, ho4, hb4⟩
            have HM5 := Lib.hid (HM4.out.below hb4)
            have hsz4 := HM4.out.sz
            obtain ⟨v4a, v4c, rfl⟩ := row_lens ho4
            have hlt4 := ho4.lt
            have hde := delete_any ho4 (holds_len s.R) 134 #[.pointer (some ⟨w.heap.size, 0, none⟩)] (fun x => !decide (x.c = c.other)) (enters_of Tryd.func134 (by kernel_rfl) rfl) (fun y W _ hM => rec1_any W w.heap.size c.other ((World.cell?_of_block (a := ⟨w.heap.size, 8, none⟩) (hM.block _ (World.block_lt_of_cell? _ _ (HM5.out.cb 8 _ rfl)) (fun e => by have := (ho4.lt w.heap.size e).1; omega))).trans (HM5.out.cb 8 _ rfl)) y)
            clear hb4)
         | (go_at_call 130; refine hde.mono ?_; clear hde; rintro e w5 ⟨v5, rfl, ho5, hob5, hm5⟩
            obtain ⟨v5a, v5c, rfl⟩ := row_lens ho5
            clear ho5 hob5
            generalize ((holdsOf s.R).filter fun x => !!decide (x.c = c.other)).length = l5
            have HM6 := Lib.hid (HM5.out.next (HM5.out.svc.moves hm5 (fun k hk => ⟨fun hf => by have := (hlt4 k hk).1; have := HM4.out.svc.lt k hf; omega, fun e => by subst e; have := (hlt4 _ hk).1; have := HM4.out.svc.whole.lt; omega⟩)) hm5 (fun k hk => .inr (by have := (hlt4 k hk).1; omega)) HM5.out.ow)
            obtain ⟨u0, r0⟩ := HM6.out.r 0 (by omega)
            obtain ⟨u1, r1⟩ := HM6.out.r 1 (by omega)
            obtain ⟨u2, r2⟩ := HM6.out.r 2 (by omega)
            obtain ⟨u3, r3⟩ := HM6.out.r 3 (by omega)
            obtain ⟨u4, r4⟩ := HM6.out.r 4 (by omega)
            have p0 := HM6.out.rf 0
            have p1 := HM6.out.rf 1
            have p2 := HM6.out.rf 2
            have p3 := HM6.out.rf 3
            have p4 := HM6.out.rf 4))
      obtain ⟨z0, z1, z2, z3, z4⟩ := set5_cells (B := w.heap.size + 1) (.int .i64 0) (.int .i64 0) (.slice none 0 0) (.slice v5a l5 v5c) (.slice none 0 0) HM6.out.r
      refine bodyPost_ret (v := .agg #[.int .i64 0, .int .i64 0, .slice none 0 0, .slice v5a l5 v5c, .slice none 0 0]) (by simp [results, Tryd.results116, go_sem, z0, z1, z2, z3, z4]) rfl ?_
      exact HM6.out.fin (by omega) _ _ _ _ _ rfl (ansv _ _ _ _ _ _ _ _ _ _ _)
    | some y =>
      have hy := hs.y _ _ hby
      by_cases hyc : y = c.client
      · have hrel : s.recover c = ⟨s.R, s.B, s.wait, s.last, updO s.by' c.other (some c.client)⟩ := by unfold GS.recover GS.heldB; rw [hby]; simp [hr, hyc]
        rw [hrel]
        clear hr hrel
        have e1 : ((y : Int) != (c.client : Int)) = false := by simp [hyc]
        go_enter Tryd.func116, Tryd.ntmps116
        go_wp2_with (go_at_call 133; refine hrc.mono ?_; clear hrc; rintro e w1 ⟨rfl, hb1⟩
                     have HM2 := Lib.hid (HM.out.below hb1)
                     clear hb1 HM
                     have c4 := HM2.out.svc.c4
                     have x8 := HM2.out.cb 8 _ rfl
                     have hl : ∀ j, (Instr.lookup 65 (.map (some mb)) (.int .i64 (c.other : Int)) true).run Tryd.prog (w1.drewN j) = .ok (.tuple #[.int .i64 (y : Int), .bool true]) (w1.drewN j) := fun j => by have := look_by (HM2.out.same j).svc c.other ho; rw [hby] at this; exact this)
        go_quiet (fail)
        have HM3 := Lib.hid (HM2.out.same nq)
        clear HM2 c4 x8 hl
        generalize w1.drewN nq = w2 at HM3 ⊢
        have x1 := HM3.out.cb 1 _ rfl
        clear hby hyc
        go_wp2_with fail
        have x8 := HM3.out.cb 8 _ rfl
        have c4 := HM3.out.svc.c4
        refine wp_region_still_tail 8 (by kernel_rfl) (by kernel_rfl) ?_
        simp only [List.take_succ_cons, List.take_zero, List.drop_succ_cons, List.drop_zero]
        iterate 8 still_step
        refine wpStill_nil ?_
        have hma : IMap Tryd.prog 3 w2.drew mb n (byV s.by') := HM3.out.drew.svc.ma
        have hlt : n < maxLen := by unfold maxLen; omega
        have hwf : (Lit.int .i64 (c.other : Int)).wf = true := WalkArith.wf_i64 (by omega)
        go_wp2_with (at_mapUpdate
                     refine wpList_store_int _ Tryd.underlying3 rfl (.tmp 41) (.tmp 43) (.tmp 45) 65 rfl Tryd.underlying65 mb n (byV s.by') rfl hma hlt (c.other : Int) (.int .i64 (c.client : Int)) rfl rfl hwf ?_)
        clear hma hlt hwf
        intro w3 ht hm
        rw [show (fun x : Int => if x = (c.other : Int) then some (Value.int .i64 (c.client : Int)) else byV s.by' x) = byV (updO s.by' c.other (some c.client)) from byV_upd s.by' c.other (some c.client)] at ht
        have HM4 := Lib.hid (HM3.out.drew.next (HM3.out.drew.svc.maps ht hm) hm (fun k hk => .inl (.inr (.inr (.inr (.inl hk))))) HM3.out.ow)
        clear ht hm HM3 x1 x8 c4
        have c0 := HM4.out.svc.c0
        have hli := slist_any HM4.out.svc.tab hs.R HM4.out.svc.whole
        go_wp2_with (first
           | (go_at_call 41; refine hli.mono ?_; clear hli; rintro e w4 ⟨v4, rfl, ho4, hb4⟩
              have HM5 := Lib.hid (HM4.out.below hb4)
              have hsz4 := HM4.out.sz
              obtain ⟨v4a, v4c, rfl⟩ := row_lens ho4
              have hlt4 := ho4.lt
              have hde := delete_any ho4 (holds_len s.R) 134 #[.pointer (some ⟨w.heap.size, 0, none⟩)] (fun x => !decide (x.c = c.other)) (enters_of Tryd.func134 (by kernel_rfl) rfl) (fun y W _ hM => rec1_any W w.heap.size c.other ((World.cell?_of_block (a := ⟨w.heap.size, 8, none⟩) (hM.block _ (World.block_lt_of_cell? _ _ (HM5.out.cb 8 _ rfl)) (fun e => by have := (ho4.lt w.heap.size e).1; omega))).trans (HM5.out.cb 8 _ rfl)) y)
              clear hb4)
           | (go_at_call 130; refine hde.mono ?_; clear hde; rintro e w5 ⟨v5, rfl, ho5, hob5, hm5⟩
              obtain ⟨v5a, v5c, rfl⟩ := row_lens ho5
              clear ho5 hob5
              generalize ((holdsOf s.R).filter fun x => !!decide (x.c = c.other)).length = l5
              have HM6 := Lib.hid (HM5.out.next (HM5.out.svc.moves hm5 (fun k hk => ⟨fun hf => by have := (hlt4 k hk).1; have := HM4.out.svc.lt k hf; omega, fun e => by subst e; have := (hlt4 _ hk).1; have := HM4.out.svc.whole.lt; omega⟩)) hm5 (fun k hk => .inr (by have := (hlt4 k hk).1; omega)) HM5.out.ow)
              obtain ⟨u0, r0⟩ := HM6.out.r 0 (by omega)
              obtain ⟨u1, r1⟩ := HM6.out.r 1 (by omega)
              obtain ⟨u2, r2⟩ := HM6.out.r 2 (by omega)
              obtain ⟨u3, r3⟩ := HM6.out.r 3 (by omega)
              obtain ⟨u4, r4⟩ := HM6.out.r 4 (by omega)
              have p0 := HM6.out.rf 0
              have p1 := HM6.out.rf 1
              have p2 := HM6.out.rf 2
              have p3 := HM6.out.rf 3
              have p4 := HM6.out.rf 4))
        obtain ⟨z0, z1, z2, z3, z4⟩ := set5_cells (B := w.heap.size + 1) (.int .i64 0) (.int .i64 0) (.slice none 0 0) (.slice v5a l5 v5c) (.slice none 0 0) HM6.out.r
        refine bodyPost_ret (v := .agg #[.int .i64 0, .int .i64 0, .slice none 0 0, .slice v5a l5 v5c, .slice none 0 0]) (by simp [results, Tryd.results116, go_sem, z0, z1, z2, z3, z4]) rfl ?_
        exact HM6.out.fin (by omega) _ _ _ _ _ rfl (ansv _ _ _ _ _ _ _ _ _ _ _)
      · have e1 : ((y : Int) != (c.client : Int)) = true := by simp; omega
        cases hly : livesB s.B y with
        | false =>
          have hrel : s.recover c = ⟨s.R, s.B, s.wait, s.last, updO s.by' c.other (some c.client)⟩ := by unfold GS.recover GS.heldB; rw [hby]; simp [hr, hly]
          rw [hrel]
          clear hr hrel
          go_enter Tryd.func116, Tryd.ntmps116
          go_wp2_with (go_at_call 133; refine hrc.mono ?_; clear hrc; rintro e w1 ⟨rfl, hb1⟩
                       have HM2 := Lib.hid (HM.out.below hb1)
                       clear hb1 HM
                       have c4 := HM2.out.svc.c4
                       have x8 := HM2.out.cb 8 _ rfl
                       have hl : ∀ j, (Instr.lookup 65 (.map (some mb)) (.int .i64 (c.other : Int)) true).run Tryd.prog (w1.drewN j) = .ok (.tuple #[.int .i64 (y : Int), .bool true]) (w1.drewN j) := fun j => by have := look_by (HM2.out.same j).svc c.other ho; rw [hby] at this; exact this)
          go_quiet (fail)
          have HM3 := Lib.hid (HM2.out.same nq)
          clear HM2 c4 x8 hl
          generalize w1.drewN nq = w2 at HM3 ⊢
          have x1 := HM3.out.cb 1 _ rfl
          clear hby hyc
          have hlv := lives_any HM3.out.svc y
          rw [hly] at hlv
          clear hly
          go_wp2_with (go_at_call 120; refine hlv.mono ?_; clear hlv; rintro e w2' ⟨rfl, hw⟩; rw [← hw]; clear hw)
          have x8 := HM3.out.cb 8 _ rfl
          have c4 := HM3.out.svc.c4
          refine wp_region_still_tail 8 (by kernel_rfl) (by kernel_rfl) ?_
          simp only [List.take_succ_cons, List.take_zero, List.drop_succ_cons, List.drop_zero]
          iterate 8 still_step
          refine wpStill_nil ?_
          have hma : IMap Tryd.prog 3 w2.drew mb n (byV s.by') := HM3.out.drew.svc.ma
          have hlt : n < maxLen := by unfold maxLen; omega
          have hwf : (Lit.int .i64 (c.other : Int)).wf = true := WalkArith.wf_i64 (by omega)
          go_wp2_with (at_mapUpdate
                       refine wpList_store_int _ Tryd.underlying3 rfl (.tmp 41) (.tmp 43) (.tmp 45) 65 rfl Tryd.underlying65 mb n (byV s.by') rfl hma hlt (c.other : Int) (.int .i64 (c.client : Int)) rfl rfl hwf ?_)
          clear hma hlt hwf
          intro w3 ht hm
          rw [show (fun x : Int => if x = (c.other : Int) then some (Value.int .i64 (c.client : Int)) else byV s.by' x) = byV (updO s.by' c.other (some c.client)) from byV_upd s.by' c.other (some c.client)] at ht
          have HM4 := Lib.hid (HM3.out.drew.next (HM3.out.drew.svc.maps ht hm) hm (fun k hk => .inl (.inr (.inr (.inr (.inl hk))))) HM3.out.ow)
          clear ht hm HM3 x1 x8 c4
          have c0 := HM4.out.svc.c0
          have hli := slist_any HM4.out.svc.tab hs.R HM4.out.svc.whole
          go_wp2_with (first
             | (go_at_call 41; refine hli.mono ?_; clear hli; rintro e w4 ⟨v4, rfl, ho4, hb4⟩
                have HM5 := Lib.hid (HM4.out.below hb4)
                have hsz4 := HM4.out.sz
                obtain ⟨v4a, v4c, rfl⟩ := row_lens ho4
                have hlt4 := ho4.lt
                have hde := delete_any ho4 (holds_len s.R) 134 #[.pointer (some ⟨w.heap.size, 0, none⟩)] (fun x => !decide (x.c = c.other)) (enters_of Tryd.func134 (by kernel_rfl) rfl) (fun y W _ hM => rec1_any W w.heap.size c.other ((World.cell?_of_block (a := ⟨w.heap.size, 8, none⟩) (hM.block _ (World.block_lt_of_cell? _ _ (HM5.out.cb 8 _ rfl)) (fun e => by have := (ho4.lt w.heap.size e).1; omega))).trans (HM5.out.cb 8 _ rfl)) y)
                clear hb4)
             | (go_at_call 130; refine hde.mono ?_; clear hde; rintro e w5 ⟨v5, rfl, ho5, hob5, hm5⟩
                obtain ⟨v5a, v5c, rfl⟩ := row_lens ho5
                clear ho5 hob5
                generalize ((holdsOf s.R).filter fun x => !!decide (x.c = c.other)).length = l5
                have HM6 := Lib.hid (HM5.out.next (HM5.out.svc.moves hm5 (fun k hk => ⟨fun hf => by have := (hlt4 k hk).1; have := HM4.out.svc.lt k hf; omega, fun e => by subst e; have := (hlt4 _ hk).1; have := HM4.out.svc.whole.lt; omega⟩)) hm5 (fun k hk => .inr (by have := (hlt4 k hk).1; omega)) HM5.out.ow)
                obtain ⟨u0, r0⟩ := HM6.out.r 0 (by omega)
                obtain ⟨u1, r1⟩ := HM6.out.r 1 (by omega)
                obtain ⟨u2, r2⟩ := HM6.out.r 2 (by omega)
                obtain ⟨u3, r3⟩ := HM6.out.r 3 (by omega)
                obtain ⟨u4, r4⟩ := HM6.out.r 4 (by omega)
                have p0 := HM6.out.rf 0
                have p1 := HM6.out.rf 1
                have p2 := HM6.out.rf 2
                have p3 := HM6.out.rf 3
                have p4 := HM6.out.rf 4))
          obtain ⟨z0, z1, z2, z3, z4⟩ := set5_cells (B := w.heap.size + 1) (.int .i64 0) (.int .i64 0) (.slice none 0 0) (.slice v5a l5 v5c) (.slice none 0 0) HM6.out.r
          refine bodyPost_ret (v := .agg #[.int .i64 0, .int .i64 0, .slice none 0 0, .slice v5a l5 v5c, .slice none 0 0]) (by simp [results, Tryd.results116, go_sem, z0, z1, z2, z3, z4]) rfl ?_
          exact HM6.out.fin (by omega) _ _ _ _ _ rfl (ansv _ _ _ _ _ _ _ _ _ _ _)
        | true =>
          have hrel : s.recover c = s := by unfold GS.recover GS.heldB; rw [hby]; simp [hly]; intro _ h; exact absurd h hyc
          rw [hrel]
          clear hr hrel
          go_enter Tryd.func116, Tryd.ntmps116
          go_wp2_with (go_at_call 133; refine hrc.mono ?_; clear hrc; rintro e w1 ⟨rfl, hb1⟩
                       have HM2 := Lib.hid (HM.out.below hb1)
                       clear hb1 HM
                       have c4 := HM2.out.svc.c4
                       have x8 := HM2.out.cb 8 _ rfl
                       have hl : ∀ j, (Instr.lookup 65 (.map (some mb)) (.int .i64 (c.other : Int)) true).run Tryd.prog (w1.drewN j) = .ok (.tuple #[.int .i64 (y : Int), .bool true]) (w1.drewN j) := fun j => by have := look_by (HM2.out.same j).svc c.other ho; rw [hby] at this; exact this)
          go_quiet (fail)
          have HM3 := Lib.hid (HM2.out.same nq)
          clear HM2 c4 x8 hl
          generalize w1.drewN nq = w2 at HM3 ⊢
          have x1 := HM3.out.cb 1 _ rfl
          clear hby hyc
          have hlv := lives_any HM3.out.svc y
          rw [hly] at hlv
          clear hly
          go_wp2_with (go_at_call 120; refine hlv.mono ?_; clear hlv; rintro e w2' ⟨rfl, hw⟩; rw [← hw]; clear hw
                       obtain ⟨u0, r0⟩ := HM3.out.r 0 (by omega)
                       obtain ⟨u1, r1⟩ := HM3.out.r 1 (by omega)
                       obtain ⟨u2, r2⟩ := HM3.out.r 2 (by omega)
                       obtain ⟨u3, r3⟩ := HM3.out.r 3 (by omega)
                       obtain ⟨u4, r4⟩ := HM3.out.r 4 (by omega)
                       have p0 := HM3.out.rf 0
                       have p1 := HM3.out.rf 1
                       have p2 := HM3.out.rf 2
                       have p3 := HM3.out.rf 3
                       have p4 := HM3.out.rf 4)
          obtain ⟨z0, z1, z2, z3, z4⟩ := set5_cells (B := w.heap.size + 1) (.int .i64 150) (.int .i64 0) (.slice none 0 0) (.slice none 0 0) (.slice none 0 0) HM3.out.r
          refine bodyPost_ret (v := .agg #[.int .i64 150, .int .i64 0, .slice none 0 0, .slice none 0 0, .slice none 0 0]) (by simp [results, Tryd.results116, go_sem, z0, z1, z2, z3, z4]) rfl ?_
          exact HM3.out.fin (by omega) _ _ _ _ _ rfl (ansv _ _ _ _ _ _ _ _ _ _ _)
end
end Go.Proofs.YtfjfkmoofmncnaaDoor
