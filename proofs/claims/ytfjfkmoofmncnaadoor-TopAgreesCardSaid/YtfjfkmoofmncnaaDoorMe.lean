/- Lemmas of the proof of TopAgrees, in one text: the parts Rf, Rg, Rh, Ri. Each part's own comment says what it shows. No condition but those that each lemma names. -/
import Derived.Test.YtfjfkmoofmncnaaDoorMc
import Derived.BigRegion
import Derived.StillTailTactics
import Derived.Deep.DeepCutAuto
import Derived.Deep.CutRange
import Derived.Test.YtfjfkmoofmncnaaDoorMd
import Derived.Deep.RegionHeld3
/- The reference's book: client, time, Dead, Until, Forgive, Renew. -/
namespace Go.Proofs.YtfjfkmoofmncnaaDoor
open Go.RowKit
/-- The reference's book in memory: three rows of eight. -/
structure IsRB (w : World) (b gt gs gd ct : Nat) (K : Nat → Ent) : Prop where
  c0 : w.cell? ⟨b, 0, none⟩ = some (.slice (some ⟨gt, 0, none⟩) 8 ct)
  c1 : w.cell? ⟨b, 1, none⟩ = some (.slice (some ⟨gs, 0, none⟩) 8 8)
  c2 : w.cell? ⟨b, 2, none⟩ = some (.slice (some ⟨gd, 0, none⟩) 8 8)
  t : ∀ c, c < 8 → w.cell? ⟨gt, c, none⟩ = some (.int .i64 (K c).till)
  s : ∀ c, c < 8 → w.cell? ⟨gs, c, none⟩ = some (.int .i64 (K c).seq)
  d : ∀ c, c < 8 → w.cell? ⟨gd, c, none⟩ = some (.bool (K c).dead)
  ft : ∀ o, w.frozen? ⟨gt, o, none⟩ = false
  fs : ∀ o, w.frozen? ⟨gs, o, none⟩ = false
  fd : ∀ o, w.frozen? ⟨gd, o, none⟩ = false
  ne : b ≠ gt ∧ b ≠ gs ∧ b ≠ gd ∧ gt ≠ gs ∧ gt ≠ gd ∧ gs ≠ gd
def fpR (b gt gs gd k : Nat) : Prop := k = b ∨ k = gt ∨ k = gs ∨ k = gd
section
variable {w w' : World} {b gt gs gd ct : Nat} {K : Nat → Ent}
theorem IsRB.lt (h : IsRB w b gt gs gd ct K) : ∀ k, fpR b gt gs gd k → k < w.heap.size := by
  intro k hk
  rcases hk with rfl | rfl | rfl | rfl
  · exact World.block_lt_of_cell? w _ h.c0
  · exact World.block_lt_of_cell? w _ (h.t 0 (by omega))
  · exact World.block_lt_of_cell? w _ (h.s 0 (by omega))
  · exact World.block_lt_of_cell? w _ (h.d 0 (by omega))
theorem IsRB.keep (h : IsRB w b gt gs gd ct K) (hk : ∀ k, fpR b gt gs gd k → w'.heap[k]? = w.heap[k]?) : IsRB w' b gt gs gd ct K := by
  have kb := hk b (.inl rfl)
  have kt := hk gt (.inr (.inl rfl))
  have ks := hk gs (.inr (.inr (.inl rfl)))
  have kd := hk gd (.inr (.inr (.inr rfl)))
  exact ⟨(World.cell?_of_block (a := ⟨b, 0, none⟩) kb).trans h.c0, (World.cell?_of_block (a := ⟨b, 1, none⟩) kb).trans h.c1, (World.cell?_of_block (a := ⟨b, 2, none⟩) kb).trans h.c2,
    fun c hc => (World.cell?_of_block (a := ⟨gt, c, none⟩) kt).trans (h.t c hc), fun c hc => (World.cell?_of_block (a := ⟨gs, c, none⟩) ks).trans (h.s c hc), fun c hc => (World.cell?_of_block (a := ⟨gd, c, none⟩) kd).trans (h.d c hc),
    fun o => (World.frozen?_of_block (a := ⟨gt, o, none⟩) kt).trans (h.ft o), fun o => (World.frozen?_of_block (a := ⟨gs, o, none⟩) ks).trans (h.fs o), fun o => (World.frozen?_of_block (a := ⟨gd, o, none⟩) kd).trans (h.fd o), h.ne⟩
theorem IsRB.below (h : IsRB w b gt gs gd ct K) (hb : Below w.heap.size w w') : IsRB w' b gt gs gd ct K := h.keep fun k hk => hb.block k (h.lt k hk)
theorem oth_blk (w : World) {g g' : Nat} (o q : Nat) (v : Value) (h : g ≠ g') : (w.setCell ⟨g', q, none⟩ v).cell? ⟨g, o, none⟩ = w.cell? ⟨g, o, none⟩ := World.cell?_setCell_other _ _ _ _ (by intro e; injection e with e1 _; exact h e1.symm)
theorem IsRB.setT (h : IsRB w b gt gs gd ct K) (c : Nat) (hc : c < 8) (x : Int) : IsRB (w.setCell ⟨gt, c, none⟩ (.int .i64 x)) b gt gs gd ct (updE K c ⟨x, (K c).seq, (K c).dead⟩) := by
  obtain ⟨n1, n2, n3, n4, n5, n6⟩ := h.ne
  refine ⟨(oth_blk w _ _ _ n1).trans h.c0, (oth_blk w _ _ _ n1).trans h.c1, (oth_blk w _ _ _ n1).trans h.c2, fun i hi => ?_, fun i hi => ?_, fun i hi => ?_, fun o => by rw [World.frozen?_setCell]; exact h.ft o, fun o => by rw [World.frozen?_setCell]; exact h.fs o, fun o => by rw [World.frozen?_setCell]; exact h.fd o, h.ne⟩
  · unfold updE
    by_cases e : i = c
    · subst e; rw [if_pos rfl]; exact World.cell?_setCell_same _ _ _ (h.t i hi)
    · rw [if_neg e, oth_cell _ _ _ e]; exact h.t i hi
  · rw [oth_blk w _ _ _ (Ne.symm n4), h.s i hi]
    unfold updE
    by_cases e : i = c
    · subst e; rw [if_pos rfl]
    · rw [if_neg e]
  · rw [oth_blk w _ _ _ (Ne.symm n5), h.d i hi]
    unfold updE
    by_cases e : i = c
    · subst e; rw [if_pos rfl]
    · rw [if_neg e]
theorem IsRB.setS (h : IsRB w b gt gs gd ct K) (c : Nat) (hc : c < 8) (x : Int) : IsRB (w.setCell ⟨gs, c, none⟩ (.int .i64 x)) b gt gs gd ct (updE K c ⟨(K c).till, x, (K c).dead⟩) := by
  obtain ⟨n1, n2, n3, n4, n5, n6⟩ := h.ne
  refine ⟨(oth_blk w _ _ _ n2).trans h.c0, (oth_blk w _ _ _ n2).trans h.c1, (oth_blk w _ _ _ n2).trans h.c2, fun i hi => ?_, fun i hi => ?_, fun i hi => ?_, fun o => by rw [World.frozen?_setCell]; exact h.ft o, fun o => by rw [World.frozen?_setCell]; exact h.fs o, fun o => by rw [World.frozen?_setCell]; exact h.fd o, h.ne⟩
  · rw [oth_blk w _ _ _ n4, h.t i hi]
    unfold updE
    by_cases e : i = c
    · subst e; rw [if_pos rfl]
    · rw [if_neg e]
  · unfold updE
    by_cases e : i = c
    · subst e; rw [if_pos rfl]; exact World.cell?_setCell_same _ _ _ (h.s i hi)
    · rw [if_neg e, oth_cell _ _ _ e]; exact h.s i hi
  · rw [oth_blk w _ _ _ (Ne.symm n6), h.d i hi]
    unfold updE
    by_cases e : i = c
    · subst e; rw [if_pos rfl]
    · rw [if_neg e]
theorem IsRB.setD (h : IsRB w b gt gs gd ct K) (c : Nat) (hc : c < 8) (x : Bool) : IsRB (w.setCell ⟨gd, c, none⟩ (.bool x)) b gt gs gd ct (updE K c ⟨(K c).till, (K c).seq, x⟩) := by
  obtain ⟨n1, n2, n3, n4, n5, n6⟩ := h.ne
  refine ⟨(oth_blk w _ _ _ n3).trans h.c0, (oth_blk w _ _ _ n3).trans h.c1, (oth_blk w _ _ _ n3).trans h.c2, fun i hi => ?_, fun i hi => ?_, fun i hi => ?_, fun o => by rw [World.frozen?_setCell]; exact h.ft o, fun o => by rw [World.frozen?_setCell]; exact h.fs o, fun o => by rw [World.frozen?_setCell]; exact h.fd o, h.ne⟩
  · rw [oth_blk w _ _ _ n5, h.t i hi]
    unfold updE
    by_cases e : i = c
    · subst e; rw [if_pos rfl]
    · rw [if_neg e]
  · rw [oth_blk w _ _ _ n6, h.s i hi]
    unfold updE
    by_cases e : i = c
    · subst e; rw [if_pos rfl]
    · rw [if_neg e]
  · unfold updE
    by_cases e : i = c
    · subst e; rw [if_pos rfl]; exact World.cell?_setCell_same _ _ _ (h.d i hi)
    · rw [if_neg e, oth_cell _ _ _ e]; exact h.d i hi
set_option maxRecDepth 100000 in
theorem rcl_any (c : Nat) : Calls Tryd.prog 81 #[.int .i64 (c : Int)] w fun e w' => e = .returned (.bool (decide (c < 8))) ∧ w = w' := by
  have e1 : decide ((0 : Int) ≤ (c : Int)) = true := by simp
  have e2 : decide ((c : Int) < 8) = decide (c < 8) := by
    by_cases h : c < 8
    · rw [decide_eq_true h, decide_eq_true]; omega
    · rw [decide_eq_false h, decide_eq_false]; omega
  go_enter Tryd.func81, Tryd.ntmps81
  go_wp2_with fail
  go_ret
  exact ⟨by first | rfl | simp, rfl⟩
set_option maxRecDepth 100000 in
theorem rtime_any (n : Int) : Calls Tryd.prog 82 #[.int .i64 n] w fun e w' => e = .returned (.bool (okT n)) ∧ w = w' := by
  have h0 : okT n = (decide (0 ≤ n) && decide (n ≤ 1099511627776)) := rfl
  rw [h0]
  clear h0
  cases e1 : decide (0 ≤ n)
  all_goals
    go_enter Tryd.func82, Tryd.ntmps82
    go_wp2_with fail
    go_ret
    exact ⟨by first | rfl | simp, rfl⟩
set_option maxRecDepth 100000 in
theorem rdead_any (h : IsRB w b gt gs gd ct K) (c : Nat) : Calls Tryd.prog 64 #[.pointer (some ⟨b, 0, none⟩), .int .i64 (c : Int)] w fun e w' => e = .returned (.bool (decide (c < 8) && (K c).dead)) ∧ w = w' := by
  have hc := rcl_any (w := w) c
  have c2 := h.c2
  by_cases hlt : c < 8
  · have d0 := h.d c hlt
    rw [decide_eq_true hlt] at hc ⊢
    have i1 : (c : Int) < 8 := by omega
    clear h
    go_enter Tryd.func64, Tryd.ntmps64
    go_wp2_with (go_at_call 81; refine hc.mono ?_; clear hc; rintro e w1 ⟨rfl, rfl⟩)
    go_ret
    exact ⟨by first | rfl | simp, rfl⟩
  · rw [decide_eq_false hlt] at hc ⊢
    clear h
    go_enter Tryd.func64, Tryd.ntmps64
    go_wp2_with (go_at_call 81; refine hc.mono ?_; clear hc; rintro e w1 ⟨rfl, rfl⟩)
    go_ret
    exact ⟨by first | rfl | simp, rfl⟩
set_option maxRecDepth 100000 in
theorem runtil_any (h : IsRB w b gt gs gd ct K) (c : Nat) : Calls Tryd.prog 83 #[.pointer (some ⟨b, 0, none⟩), .int .i64 (c : Int)] w fun e w' => e = .returned (.int .i64 (if c < 8 then (K c).till else -1)) ∧ w = w' := by
  have hc := rcl_any (w := w) c
  have c0 := h.c0
  by_cases hlt : c < 8
  · have d0 := h.t c hlt
    rw [decide_eq_true hlt] at hc
    rw [if_pos hlt]
    have i1 : (c : Int) < 8 := by omega
    clear h
    go_enter Tryd.func83, Tryd.ntmps83
    go_wp2_with (go_at_call 81; refine hc.mono ?_; clear hc; rintro e w1 ⟨rfl, rfl⟩)
    go_ret
    exact ⟨by first | rfl | simp, rfl⟩
  · rw [decide_eq_false hlt] at hc
    rw [if_neg hlt]
    clear h
    go_enter Tryd.func83, Tryd.ntmps83
    go_wp2_with (go_at_call 81; refine hc.mono ?_; clear hc; rintro e w1 ⟨rfl, rfl⟩)
    go_ret
    exact ⟨by first | rfl | simp, rfl⟩
/-- What the book's methods leave. -/
def RBPost (w : World) (b gt gs gd ct : Nat) (K : Nat → Ent) (w' : World) : Prop := IsRB w' b gt gs gd ct K ∧ Moves (fun k => k = gt ∨ k = gs ∨ k = gd) w w'
set_option maxRecDepth 100000 in
theorem rforgive_dead (h : IsRB w b gt gs gd ct K) (c : Nat) (hlt : c < 8) (hd : (K c).dead = true) : Calls Tryd.prog 69 #[.pointer (some ⟨b, 0, none⟩), .int .i64 (c : Int)] w fun e w' => e = .returned (.int .i64 0) ∧ RBPost w b gt gs gd ct (updE K c ⟨-1, (K c).seq, false⟩) w' := by
  have hc := rdead_any h c
  rw [decide_eq_true hlt, hd] at hc
  have c0 := h.c0
  have c2 := h.c2
  have d0 := h.t c hlt
  have d2 := h.d c hlt
  have i1 : (c : Int) < 8 := by omega
  have f0 := h.ft c
  have f2 := h.fd c
  have hD := h.setD c hlt false
  have hT := hD.setT c hlt (-1)
  have e1 : updE K c ⟨(K c).till, (K c).seq, false⟩ c = ⟨(K c).till, (K c).seq, false⟩ := by unfold updE; rw [if_pos rfl]
  rw [updE_twice, e1] at hT
  have k0 := hD.c0
  have k1 := hD.t c hlt
  have k2 := hD.ft c
  rw [e1] at k1
  have HT := Lib.hid hT
  have HM := Lib.hid ((Moves.setCell (F := fun k => k = gt ∨ k = gs ∨ k = gd) (Moves.refl _ w) ⟨gd, c, none⟩ (.bool false) (.inl (.inr (.inr rfl)))).setCell ⟨gt, c, none⟩ (.int .i64 (-1)) (.inl (.inl rfl)))
  clear h hD hT e1 hd
  go_enter Tryd.func69, Tryd.ntmps69
  go_wp2_with (go_at_call 64; refine hc.mono ?_; clear hc; rintro e w1 ⟨rfl, rfl⟩)
  go_ret
  exact ⟨rfl, HT.out, HM.out⟩
set_option maxRecDepth 100000 in
set_option maxHeartbeats 4000000 in
theorem rrenew_any (h : IsRB w b gt gs gd ct K) (c : Nat) (q n l : Int) : Calls Tryd.prog 62 #[.pointer (some ⟨b, 0, none⟩), .int .i64 (c : Int), .int .i64 q, .int .i64 n, .int .i64 l] w fun e w' => (∃ x y : Int, e = .returned (.tuple #[.int .i64 x, .int .i64 y])) ∧ RBPost w b gt gs gd ct (renewK K c q n l) w' := by
  have hc := rcl_any (w := w) c
  have ht1 := rtime_any (w := w) n
  have ht2 := rtime_any (w := w) l
  obtain ⟨B, hB⟩ : ∃ B, B = (!decide (c < 8) || decide (q < 1) || decide (1099511627776 < q) || !okT n || !okT l) := ⟨_, rfl⟩
  have HB := Lib.hid hB
  have H := Lib.hid h
  clear hB h
  go_enter Tryd.func62, Tryd.ntmps62
  go_upto_region 1 with (fail)
  go_cut [32] from 12 to 32 (fun s wx => s = .bool B ∧ wx = w)
  case first =>
    have hcs : (decide (c < 8) = false ∧ B = true) ∨ (decide (c < 8) = true ∧ decide (q < 1) = true ∧ B = true) ∨ (decide (c < 8) = true ∧ decide (q < 1) = false ∧ decide (1099511627776 < q) = true ∧ B = true) ∨ (decide (c < 8) = true ∧ decide (q < 1) = false ∧ decide (1099511627776 < q) = false ∧ okT n = false ∧ B = true) ∨ (decide (c < 8) = true ∧ decide (q < 1) = false ∧ decide (1099511627776 < q) = false ∧ okT n = true ∧ okT l = false ∧ B = true) ∨ (decide (c < 8) = true ∧ decide (q < 1) = false ∧ decide (1099511627776 < q) = false ∧ okT n = true ∧ okT l = true ∧ B = false) := by
      have e := HB.out
      revert e
      cases decide (c < 8) <;> cases decide (q < 1) <;> cases decide (1099511627776 < q) <;> cases okT n <;> cases okT l <;> simp
    rcases hcs with ⟨t1, tt⟩ | ⟨t1, t2, tt⟩ | ⟨t1, t2, t3, tt⟩ | ⟨t1, t2, t3, t4, tt⟩ | ⟨t1, t2, t3, t4, t5, tt⟩ | ⟨t1, t2, t3, t4, t5, tt⟩
    all_goals
      have TT := Lib.hid tt
      clear tt
      rw [t1] at hc
      try rw [t4] at ht1
      try rw [t5] at ht2
      clear t1
      go_wp2_with (first
        | (go_at_call 81; refine hc.mono ?_; clear hc; rintro e w1 ⟨rfl, rfl⟩)
        | (go_at_call 82; refine ht1.mono ?_; clear ht1; rintro e w1 ⟨rfl, rfl⟩)
        | (go_at_call 82; refine ht2.mono ?_; clear ht2; rintro e w1 ⟨rfl, rfl⟩))
      go_meet
      exact ⟨by rw [TT.out], rfl⟩
  case rest =>
    obtain ⟨rfl, rfl⟩ := hcut
    clear hc ht1 ht2
    cases B with
    | true =>
      have hK : renewK K c q n l = K := by
        have e := HB.out
        unfold renewK
        rw [if_neg]
        rintro ⟨h1, h2, h3, h4, h5, -⟩
        rw [decide_eq_true h1, decide_eq_false (show ¬ q < 1 by omega), decide_eq_false (show ¬ 1099511627776 < q by omega), h4, h5] at e
        cases e
      have HK := Lib.hid hK
      clear hK
      go_wp2_with fail
      go_ret2
      rw [HK.out]
      exact ⟨⟨_, _, rfl⟩, H.out, Moves.refl _ _⟩
    | false =>
      have hgood : c < 8 ∧ 1 ≤ q ∧ q ≤ 1099511627776 ∧ okT n = true ∧ okT l = true := by
        have e := HB.out
        simp only [Bool.false_eq, Bool.or_eq_false_iff, Bool.not_eq_false', decide_eq_true_eq, decide_eq_false_iff_not] at e
        obtain ⟨⟨⟨⟨e1, e2⟩, e3⟩, e4⟩, e5⟩ := e
        exact ⟨e1, by omega, by omega, e4, e5⟩
      obtain ⟨hc8, hq1, hq2, hn, hl⟩ := hgood
      have hn' := (okT_iff n).1 hn
      have hl' := (okT_iff l).1 hl
      have c0 := H.out.c0
      have c1 := H.out.c1
      have c2 := H.out.c2
      have d0 := H.out.t c hc8
      have d1 := H.out.s c hc8
      have d2 := H.out.d c hc8
      have i1 : (c : Int) < 8 := by omega
      have hw : wrap64 (n + l) = n + l := by unfold wrap64; omega
      have f0 := H.out.ft c
      have f1 := H.out.fs c
      by_cases hg : (K c).dead = false ∧ (K c).seq < q ∧ okT (n + l) = true
      · obtain ⟨g1, g2, g3⟩ := hg
        have hK : renewK K c q n l = updE K c ⟨max (K c).till (n + l), q, false⟩ := by
          unfold renewK
          rw [if_pos ⟨hc8, hq1, hq2, hn, hl, g1, g2, g3⟩]
        rw [g1] at d2
        have e4 : decide (q ≤ (K c).seq) = false := by simp; omega
        have e5 : decide ((1099511627776 : Int) < n + l) = false := by have := (okT_iff _).1 g3; simp; omega
        obtain ⟨W1, hW1⟩ : ∃ W1, W1 = wc.setCell ⟨gs, c, none⟩ (.int .i64 q) := ⟨_, rfl⟩
        have hS0 := H.out.setS c hc8 q
        have hM0 := Moves.setCell (F := fun k => k = gt ∨ k = gs ∨ k = gd) (Moves.refl _ wc) ⟨gs, c, none⟩ (.int .i64 q) (.inl (.inr (.inl rfl)))
        rw [← hW1] at hS0 hM0
        have hT := (hS0.setT c hc8 (max (K c).till (n + l))).keep (w' := (W1.setCell ⟨gt, c, none⟩ (.int .i64 (max (K c).till (n + l)))).drew) fun _ _ => rfl
        have e1 : updE K c ⟨(K c).till, q, (K c).dead⟩ c = ⟨(K c).till, q, (K c).dead⟩ := by unfold updE; rw [if_pos rfl]
        rw [updE_twice, e1, g1] at hT
        have k0 := hS0.c0
        have k1 := hS0.t c hc8
        have k2 := hS0.ft c
        have k3 := hT.c0
        have k4 := hT.t c hc8
        rw [e1] at k1
        rw [show updE K c ⟨max (K c).till (n + l), q, false⟩ c = ⟨max (K c).till (n + l), q, false⟩ by unfold updE; rw [if_pos rfl]] at k4
        have HT := Lib.hid hT
        have HK := Lib.hid hK
        have HW1 := Lib.hid hW1
        have HM := Lib.hid (hM0.setCell ⟨gt, c, none⟩ (.int .i64 (max (K c).till (n + l))) (.inl (.inl rfl))).drew
        clear hS0 hM0 hW1 hT e1 g1 g2 g3 hK hn hl hn' hl' hq1 hq2
        by_cases hmx : (K c).till < n + l
        · have em : max (K c).till (n + l) = n + l := by omega
          have HEM := Lib.hid em
          rw [em] at k3 k4
          clear em
          go_upto_region 10 with (fail)
          rw [← HW1.out]
          refine wp_region_still_tail 17 (by kernel_rfl) (by kernel_rfl) ?_
          simp only [List.take_succ_cons, List.take_zero, List.drop_succ_cons, List.drop_zero]
          iterate 17 still_step
          refine wpStill_nil ?_
          go_wp2_with fail
          all_goals
            go_ret2
            rw [HK.out]
            refine ⟨⟨_, _, rfl⟩, ?_⟩
            have h1 := HT.out
            have h2 := HM.out
            rw [HEM.out] at h1 h2 ⊢
            exact ⟨h1, h2⟩
        · have em : max (K c).till (n + l) = (K c).till := by omega
          have HEM := Lib.hid em
          rw [em] at k3 k4
          clear em
          go_upto_region 10 with (fail)
          rw [← HW1.out]
          refine wp_region_still_tail 17 (by kernel_rfl) (by kernel_rfl) ?_
          simp only [List.take_succ_cons, List.take_zero, List.drop_succ_cons, List.drop_zero]
          iterate 17 still_step
          refine wpStill_nil ?_
          go_wp2_with fail
          all_goals
            go_ret2
            rw [HK.out]
            refine ⟨⟨_, _, rfl⟩, ?_⟩
            have h1 := HT.out
            have h2 := HM.out
            rw [HEM.out] at h1 h2 ⊢
            exact ⟨h1, h2⟩
      · have hK : renewK K c q n l = K := by
          unfold renewK
          rw [if_neg fun h => hg ⟨h.2.2.2.2.2.1, h.2.2.2.2.2.2.1, h.2.2.2.2.2.2.2⟩]
        have HK := Lib.hid hK
        cases hd : (K c).dead with
        | true =>
          rw [hd] at d2
          clear hK hg hd hn hl
          go_wp2_with fail
          go_ret2
          rw [HK.out]
          exact ⟨⟨_, _, rfl⟩, H.out, Moves.refl _ _⟩
        | false =>
          rw [hd] at d2
          by_cases hs : q ≤ (K c).seq
          · have e4 : decide (q ≤ (K c).seq) = true := by simpa using hs
            clear hK hg hd hn hl
            go_wp2_with fail
            go_ret2
            rw [HK.out]
            exact ⟨⟨_, _, rfl⟩, H.out, Moves.refl _ _⟩
          · have e4 : decide (q ≤ (K c).seq) = false := by simpa using hs
            have e5 : decide ((1099511627776 : Int) < n + l) = true := by
              have : ¬ okT (n + l) = true := fun h => hg ⟨hd, by omega, h⟩
              rw [okT_iff] at this
              simp; omega
            clear hK hg hd hn hl
            go_wp2_with fail
            go_ret2
            rw [HK.out]
            exact ⟨⟨_, _, rfl⟩, H.out, Moves.refl _ _⟩
end
end Go.Proofs.YtfjfkmoofmncnaaDoor
/- The reference's book: Sweep, NewBook. -/
namespace Go.Proofs.YtfjfkmoofmncnaaDoor
open Go.RowKit
section
variable {w w' : World} {b gt gs gd ct : Nat} {K : Nat → Ent}
set_option maxRecDepth 100000 in
set_option maxHeartbeats 4000000 in
theorem rsweep_any (h : IsRB w b gt gs gd ct K) (n : Int) : Calls Tryd.prog 63 #[.pointer (some ⟨b, 0, none⟩), .int .i64 n] w fun e w' => (∃ a n c, e = .returned (.slice a n c)) ∧ RBPost w b gt gs gd ct (sweepK K n 8) w' := by
  obtain ⟨i0, hi0, hz0, hz1, hz2⟩ := info_parts Tryd.infoI
  have Hi := Lib.hid hi0
  have Hz := Lib.hid hz0
  have Hz1 := Lib.hid hz1
  have Hz2 := Lib.hid hz2
  clear hi0 hz0 hz1 hz2
  obtain ⟨W0, hW0⟩ : ∃ W0, W0 = w.alloc (.cells #[] 3) := ⟨_, rfl⟩
  have hb0 : Below w.heap.size w W0 := by rw [hW0]; exact (Below.refl _ _).alloc (Nat.le_refl _) _
  have hrow0 : W0.ownsRow w.heap.size 3 1 (.slice (some ⟨w.heap.size, 0, none⟩) 0 0) 0 [] := by
    rw [hW0]
    exact World.ownsRow_made (base := w.heap.size) (e := 3) (size := 1) w #[] 0 (by simp) (Nat.zero_le _) rfl
  have H := Lib.hid h
  have HB0 := Lib.hid hb0
  have HR0 := Lib.hid hrow0
  have HW0 := Lib.hid hW0
  have HS0 : Hid (sweepK K n 0 = K) := Lib.hid (by funext i; unfold sweepK; rw [if_neg (by omega)])
  clear h hb0 hrow0 hW0
  go_enter Tryd.func63, Tryd.ntmps63
  go_wp2_with fail
  rw [← HW0.out]
  go_loopw [5, 6] (fun v p wr => ∃ (c k : Nat) (xs : List Value), c ≤ 8 ∧ k ≤ c ∧ p = .int .i64 (c : Int) ∧ wr.ownsRow w.heap.size 3 1 v k xs ∧ IsRB wr b gt gs gd ct (sweepK K n c) ∧ Moves (fun k => k = gt ∨ k = gs ∨ k = gd) w wr) (fun _ p _ => 8 - (intOf p).toNat)
  case atStart => exact ⟨0, 0, [], by omega, by omega, rfl, HR0.out, by rw [HS0.out]; exact H.out.below HB0.out, Moves.of_below HB0.out⟩
  case round =>
    obtain ⟨c, k, xs, hc, hk, rfl, ho, hB, hM⟩ := hrel
    by_cases hlt : c < 8
    · have hc8 : (c : Int) < 8 := by omega
      have e0 : decide ((c : Int) < 8) = true := by simpa using hc8
      obtain ⟨av, cap, rfl⟩ := row_lens ho
      have hs : sweepK K n c c = K c := by unfold sweepK; rw [if_neg (by omega)]
      have t0 := hB.t c hlt
      have t2 := hB.d c hlt
      rw [hs] at t0 t2
      have c0 := hB.c0
      have c2 := hB.c2
      have f2 := hB.fd c
      have HO := Lib.hid ho
      have HB := Lib.hid hB
      have HM := Lib.hid hM
      clear ho hB hM
      by_cases h1 : 0 ≤ (K c).till
      · have e1 : decide (0 ≤ (K c).till) = true := by simpa using h1
        by_cases h2 : (K c).till < n
        · have e2 : decide ((K c).till < n) = true := by simpa using h2
          cases hd : (K c).dead with
          | true =>
            rw [hd] at t2
            have HS := Lib.hid (sweepK_off K n c (by rw [hd]; simp))
            clear hd hs
            go_wp2_with fail
            go_roundw
            case rel => exact ⟨c + 1, k, xs, by omega, by omega, by go_num, HO.out, by rw [HS.out]; exact HB.out, HM.out⟩
            case measure => simp [intOf]; omega
          | false =>
            rw [hd] at t2
            have hs3 := sweepK_on K n c ⟨h1, h2, hd⟩
            have hset := HB.out.setD c hlt true
            rw [hs, ← hs3] at hset
            have hgd : gd < w.heap.size := H.out.lt gd (.inr (.inr (.inr rfl)))
            have hMs : Moves (fun k => k = gt ∨ k = gs ∨ k = gd) w (wr.setCell ⟨gd, c, none⟩ (.bool true)) := HM.out.setCell ⟨gd, c, none⟩ _ (.inl (.inr (.inr rfl)))
            have hob : ∀ q, (Value.slice av k cap).ownBlock = some q → w.heap.size ≤ q := fun q hq => (HO.out.lt q hq).1
            have hoS : (wr.setCell ⟨gd, c, none⟩ (.bool true)).ownsRow w.heap.size 3 1 (.slice av k cap) k xs := ownsRow_setCell HO.out _ _ fun e => by have := hob _ e; have h3 : w.heap.size ≤ gd := this; omega
            have hMA := hMs.alloc (.cells #[.int .i64 (c : Int)] 3)
            have hoA := World.ownsRow.alloc hoS (.cells #[.int .i64 (c : Int)] 3)
            have hMg : ∀ w5, ((wr.setCell ⟨gd, c, none⟩ (.bool true)).alloc (.cells #[.int .i64 (c : Int)] 3)).grownBy w5 (Value.slice av k cap).ownBlock → IsRB w5 b gt gs gd ct (sweepK K n (c + 1)) ∧ Moves (fun k => k = gt ∨ k = gs ∨ k = gd) w w5 := fun w5 hg => by
              refine ⟨(hset.keep (w' := (wr.setCell ⟨gd, c, none⟩ (.bool true)).alloc (.cells #[.int .i64 (c : Int)] 3)) fun q hq => Below.heap_alloc _ _ _ (hset.lt q hq)).keep fun q hq => hg.block q (by rw [World.size_alloc]; have := hset.lt q hq; omega) (fun e => by have h3 := hob q e.symm; have h4 := H.out.lt q hq; omega), hMA.grown hg fun q hq => .inr (HO.out.lt q hq).1⟩
            have hbs : w.heap.size ≤ ((wr.setCell ⟨gd, c, none⟩ (.bool true)).alloc (.cells #[.int .i64 (c : Int)] 3)).heap.size := hMA.size
            have hcl : ∀ j u, [Value.int .i64 (c : Int)][j]? = some u → ((wr.setCell ⟨gd, c, none⟩ (.bool true)).alloc (.cells #[.int .i64 (c : Int)] 3)).cell? ((⟨wr.heap.size, 0, none⟩ : Addr).add j) = some u := fun j u hj => by
              have h0 := World.cell?_alloc_new (wr.setCell ⟨gd, c, none⟩ (.bool true)) #[.int .i64 (c : Int)] 3 j
              rw [World.size_setCell] at h0
              rw [Addr.add_mid, Nat.zero_add, h0]
              simpa using hj
            have HOA := Lib.hid hoA
            have HMg := Lib.hid hMg
            have Hcl := Lib.hid hcl
            clear hset hMs hob hoS hMA hoA hMg hcl hd hs hs3 hgd
            go_wp2_with (refine wpList_append_own_at _ rfl (.tmp 47) (.tmp 49) 53 rfl w.heap.size 3 i0 _ 1 8 Tryd.underlying53 Hi.out Hz.out Hz1.out Hz2.out rfl (by decide) _ k xs rfl HOA.out ⟨wr.heap.size, 0, none⟩ 1 1 [.int .i64 (c : Int)] rfl rfl Hcl.out (by simp [Value.oneCell']) (by unfold maxLen; omega) (by omega) hbs ?_)
            intro v5 w5 hown5 hgrow _ _
            obtain ⟨hb5, hm5⟩ := HMg.out w5 hgrow
            have HB5 := Lib.hid hb5
            have HM5 := Lib.hid hm5
            have HO5 := Lib.hid hown5
            clear hgrow hb5 hm5 hown5
            go_wp2_with fail
            go_roundw
            case rel => exact ⟨c + 1, k + 1, _, by omega, by omega, by go_num, HO5.out, HB5.out, HM5.out⟩
            case measure => simp [intOf]; omega
        · have e2 : decide ((K c).till < n) = false := by simpa using h2
          have HS := Lib.hid (sweepK_off K n c (by omega))
          clear hs
          go_wp2_with fail
          go_roundw
          case rel => exact ⟨c + 1, k, xs, by omega, by omega, by go_num, HO.out, by rw [HS.out]; exact HB.out, HM.out⟩
          case measure => simp [intOf]; omega
      · have e1 : decide (0 ≤ (K c).till) = false := by simpa using h1
        have HS := Lib.hid (sweepK_off K n c (by omega))
        clear hs
        go_wp2_with fail
        go_roundw
        case rel => exact ⟨c + 1, k, xs, by omega, by omega, by go_num, HO.out, by rw [HS.out]; exact HB.out, HM.out⟩
        case measure => simp [intOf]; omega
    · have e0 : decide ((c : Int) < 8) = false := by simp; omega
      have ec : c = 8 := by omega
      subst ec
      obtain ⟨av, cap, rfl⟩ := row_lens ho
      have HB := Lib.hid hB
      have HM := Lib.hid hM
      clear ho hB hM
      go_wp2_with fail
      go_ret
      exact ⟨⟨_, _, _, rfl⟩, HB.out, HM.out⟩
theorem Tryd.mk8I (w : World) : (Instr.makeSlice 53 (.int .i64 8) (.int .i64 8)).run Tryd.prog w = .ok (.slice (some ⟨w.heap.size, 0, none⟩) 8 8) (w.alloc (.cells (Array.replicate 8 (.int .i64 0)) 3)) := by kernel_rfl
theorem Tryd.mk8B (w : World) : (Instr.makeSlice 183 (.int .i64 8) (.int .i64 8)).run Tryd.prog w = .ok (.slice (some ⟨w.heap.size, 0, none⟩) 8 8) (w.alloc (.cells (Array.replicate 8 (.bool false)) 4)) := by kernel_rfl
/-- A book whose first row grows. -/
structure NB (w W : World) (B b gs gd : Nat) (ov : Value) (k : Nat) : Prop where
  c0 : W.cell? ⟨b, 0, none⟩ = some ov
  c1 : W.cell? ⟨b, 1, none⟩ = some (.slice (some ⟨gs, 0, none⟩) 8 8)
  c2 : W.cell? ⟨b, 2, none⟩ = some (.slice (some ⟨gd, 0, none⟩) 8 8)
  s : ∀ c, c < 8 → W.cell? ⟨gs, c, none⟩ = some (.int .i64 0)
  d : ∀ c, c < 8 → W.cell? ⟨gd, c, none⟩ = some (.bool false)
  fb : ∀ o, W.frozen? ⟨b, o, none⟩ = false
  fs : ∀ o, W.frozen? ⟨gs, o, none⟩ = false
  fd : ∀ o, W.frozen? ⟨gd, o, none⟩ = false
  row : W.ownsRow B 3 1 ov k (List.replicate k (.int .i64 (-1)))
  ne : b ≠ gs ∧ b ≠ gd ∧ gs ≠ gd
  ge : w.heap.size ≤ b ∧ w.heap.size ≤ gs ∧ w.heap.size ≤ gd
  lt : b < B ∧ gs < B ∧ gd < B ∧ B ≤ W.heap.size
  bl : Below w.heap.size w W
theorem NB.made {w W : World} {b gs gd : Nat} (hb : W.heap[b]? = some (.cells #[.slice none 0 0, .slice (some ⟨gs, 0, none⟩) 8 8, .slice (some ⟨gd, 0, none⟩) 8 8] 185)) (hs : W.heap[gs]? = some (.cells (Array.replicate 8 (.int .i64 0)) 3)) (hd : W.heap[gd]? = some (.cells (Array.replicate 8 (.bool false)) 4))
    (ne : b ≠ gs ∧ b ≠ gd ∧ gs ≠ gd) (ge : w.heap.size ≤ b ∧ w.heap.size ≤ gs ∧ w.heap.size ≤ gd) (lt : b < W.heap.size ∧ gs < W.heap.size ∧ gd < W.heap.size) (bl : Below w.heap.size w W) : NB w W W.heap.size b gs gd (.slice none 0 0) 0 := by
  refine ⟨by simp [World.cell?, hb], by simp [World.cell?, hb], by simp [World.cell?, hb], fun c hc => by simp [World.cell?, hs, hc], fun c hc => by simp [World.cell?, hd, hc], fun o => by simp [World.frozen?, hb], fun o => by simp [World.frozen?, hs], fun o => by simp [World.frozen?, hd], World.ownsRow_nil _ _ _ _, ne, ge, ⟨lt.1, lt.2.1, lt.2.2, Nat.le_refl _⟩, bl⟩
theorem heap3 (w : World) (a b c : Obj) : let W := (((w.alloc a).alloc b).alloc c).drew; W.heap[w.heap.size]? = some a ∧ W.heap[w.heap.size + 1]? = some b ∧ W.heap[w.heap.size + 1 + 1]? = some c ∧ W.heap.size = w.heap.size + 3 ∧ Below w.heap.size w W := by
  refine ⟨?_, ?_, ?_, by simp [World.drew], (((Below.refl _ _).alloc (Nat.le_refl _) _).alloc (by simp) _).alloc (by simp; omega) _ |>.drew⟩
  · show (((w.alloc a).alloc b).alloc c).heap[w.heap.size]? = _
    rw [Below.heap_alloc _ _ _ (by simp; omega), Below.heap_alloc _ _ _ (by simp)]
    exact heap_alloc_last w a
  · show (((w.alloc a).alloc b).alloc c).heap[w.heap.size + 1]? = _
    rw [Below.heap_alloc _ _ _ (by simp)]
    have := heap_alloc_last (w.alloc a) b
    rwa [World.size_alloc] at this
  · show (((w.alloc a).alloc b).alloc c).heap[w.heap.size + 1 + 1]? = _
    have := heap_alloc_last ((w.alloc a).alloc b) c
    rwa [World.size_alloc, World.size_alloc] at this
set_option maxRecDepth 100000 in
set_option maxHeartbeats 4000000 in
theorem rnewbook_any : Calls Tryd.prog 52 #[] w fun e w' => ∃ b gt gs gd ct, e = .returned (.pointer (some ⟨b, 0, none⟩)) ∧ IsRB w' b gt gs gd ct (fun _ => ⟨-1, 0, false⟩) ∧ Below w.heap.size w w' ∧ ∀ k, fpR b gt gs gd k → w.heap.size ≤ k := by
  obtain ⟨i0, hi0, hz0, hz1, hz2⟩ := info_parts Tryd.infoI
  have Hi := Lib.hid hi0
  have Hz := Lib.hid hz0
  have Hz1 := Lib.hid hz1
  have Hz2 := Lib.hid hz2
  clear hi0 hz0 hz1 hz2
  go_enter Tryd.func52, Tryd.ntmps52
  go_upto_region 1 with (fail)
  go_cut [1] from 3 to 6 (fun s1 wx => ∃ b gs gd, s1 = .pointer (some ⟨b, 0, none⟩) ∧ NB w wx wx.heap.size b gs gd (.slice none 0 0) 0)
  case first =>
    have m1 := Tryd.mk8I w.drew
    have m2 := Tryd.mk8B w.drew
    have m3 := Tryd.mk8I (w.alloc (.cells (Array.replicate 8 (.bool false)) 4)).drew
    have m4 := Tryd.mk8B (w.alloc (.cells (Array.replicate 8 (.int .i64 0)) 3)).drew
    go_region
    · go_wp2_with fail
      go_meet
      obtain ⟨h1, h2, h3, h4, h5⟩ := heap3 w (.cells (Array.replicate 8 (.int .i64 0)) 3) (.cells (Array.replicate 8 (.bool false)) 4) (.cells #[.slice none 0 0, .slice (some ⟨w.heap.size, 0, none⟩) 8 8, .slice (some ⟨w.heap.size + 1, 0, none⟩) 8 8] 185)
      exact ⟨_, _, _, rfl, NB.made h3 h1 h2 (by omega) (by omega) (by omega) h5⟩
    · go_wp2_with fail
      go_meet
      obtain ⟨h1, h2, h3, h4, h5⟩ := heap3 w (.cells (Array.replicate 8 (.bool false)) 4) (.cells (Array.replicate 8 (.int .i64 0)) 3) (.cells #[.slice none 0 0, .slice (some ⟨w.heap.size + 1, 0, none⟩) 8 8, .slice (some ⟨w.heap.size, 0, none⟩) 8 8] 185)
      exact ⟨_, _, _, rfl, NB.made h3 h2 h1 (by omega) (by omega) (by omega) h5⟩
  case rest =>
    obtain ⟨b, gs, gd, rfl, hN⟩ := hcut
    obtain ⟨B, hB⟩ : ∃ B, B = wc.heap.size := ⟨_, rfl⟩
    rw [← hB] at hN
    have HN := Lib.hid hN
    clear hN hB
    go_wp2_with fail
    go_loopw [2] (fun i wr => ∃ (k : Nat) (ov : Value), k ≤ 8 ∧ i = .int .i64 (k : Int) ∧ NB w wr B b gs gd ov k) (fun i _ => 8 - (intOf i).toNat)
    case atStart => exact ⟨0, _, Nat.zero_le _, rfl, HN.out⟩
    case round =>
      obtain ⟨k, ov, hk, rfl, hN⟩ := hrel
      clear HN
      by_cases hlt : k < 8
      · have e0 : decide ((k : Int) < 8) = true := by simp; omega
        obtain ⟨oa, oc, rfl⟩ := row_lens hN.row
        have c0 := hN.c0
        have hoA := World.ownsRow.alloc hN.row (.cells #[.int .i64 (-1)] 3)
        have hcl : ∀ j u, [Value.int .i64 (-1)][j]? = some u → (wr.alloc (.cells #[.int .i64 (-1)] 3)).cell? ((⟨wr.heap.size, 0, none⟩ : Addr).add j) = some u := fun j u hj => by
          rw [Addr.add_mid, Nat.zero_add, World.cell?_alloc_new]
          simpa using hj
        have hbs : B ≤ (wr.alloc (.cells #[.int .i64 (-1)] 3)).heap.size := by rw [World.size_alloc]; have := hN.lt.2.2.2; omega
        have hgr : ∀ w5 v5, (wr.alloc (.cells #[.int .i64 (-1)] 3)).grownBy w5 (Value.slice oa k oc).ownBlock → w5.ownsRow B 3 1 v5 (k + 1) (List.replicate k (.int .i64 (-1)) ++ [.int .i64 (-1)]) → (w5.cell? ⟨b, 0, none⟩ = some (.slice oa k oc) ∧ w5.frozen? ⟨b, 0, none⟩ = false) ∧ NB w (w5.setCell ⟨b, 0, none⟩ v5) B b gs gd v5 (k + 1) := fun w5 v5 hg hr => by
          have hN2 := hN
          obtain ⟨n1, n2, n3⟩ := hN.ne
          obtain ⟨l1, l2, l3, l4⟩ := hN.lt
          have hk5 : ∀ q, q < B → w5.heap[q]? = wr.heap[q]? := fun q hq => (hg.block q (by rw [World.size_alloc]; omega) (fun e => by have := (hN2.row.lt q e.symm).1; omega)).trans (Below.heap_alloc _ _ _ (by omega))
          have hb5 := hk5 b l1
          have hs5 := hk5 gs l2
          have hd5 := hk5 gd l3
          have x0 := (World.cell?_of_block (a := ⟨b, 0, none⟩) hb5).trans hN.c0
          refine ⟨⟨x0, (World.frozen?_of_block (a := ⟨b, 0, none⟩) hb5).trans (hN.fb 0)⟩, ?_⟩
          refine ⟨World.cell?_setCell_same _ _ _ x0, ?_, ?_, fun c hc => ?_, fun c hc => ?_, fun o => ?_, fun o => ?_, fun o => ?_, ?_, hN.ne, hN.ge, ⟨l1, l2, l3, ?_⟩, ?_⟩
          · rw [oth_cell _ _ _ (by omega)]; exact (World.cell?_of_block (a := ⟨b, 1, none⟩) hb5).trans hN.c1
          · rw [oth_cell _ _ _ (by omega)]; exact (World.cell?_of_block (a := ⟨b, 2, none⟩) hb5).trans hN.c2
          · rw [oth_blk _ _ _ _ (Ne.symm n1)]; exact (World.cell?_of_block (a := ⟨gs, c, none⟩) hs5).trans (hN.s c hc)
          · rw [oth_blk _ _ _ _ (Ne.symm n2)]; exact (World.cell?_of_block (a := ⟨gd, c, none⟩) hd5).trans (hN.d c hc)
          · rw [World.frozen?_setCell]; exact (World.frozen?_of_block (a := ⟨b, o, none⟩) hb5).trans (hN.fb o)
          · rw [World.frozen?_setCell]; exact (World.frozen?_of_block (a := ⟨gs, o, none⟩) hs5).trans (hN.fs o)
          · rw [World.frozen?_setCell]; exact (World.frozen?_of_block (a := ⟨gd, o, none⟩) hd5).trans (hN.fd o)
          · rw [List.replicate_succ']
            exact ownsRow_setCell hr _ _ fun e => by have := (hr.lt _ e).1; have h3 : B ≤ b := this; omega
          · have := hg.size; rw [World.size_alloc] at this; rw [World.size_setCell]; omega
          · have h1 := hN.bl.trans (((Below.refl wr.heap.size wr).alloc (Nat.le_refl _) (.cells #[.int .i64 (-1)] 3)).mono hN.bl.size)
            have h2 := ((Moves.of_below (F := fun q => q = b) h1).grown hg (fun q hq => .inr (by have := (hN2.row.lt q hq).1; have h3 := hN.ge.1; omega))).setCell ⟨b, 0, none⟩ v5 (.inl rfl)
            exact h2.below (Nat.le_refl _) fun q hq => by rw [hq]; exact hN.ge.1
        have HOA := Lib.hid hoA
        have HGR := Lib.hid hgr
        have Hcl := Lib.hid hcl
        have HBS := Lib.hid hbs
        clear hoA hgr hcl hbs hN
        go_wp2_with (refine wpList_append_own_at _ rfl (.tmp 15) (.tmp 16) 53 rfl B 3 i0 _ 1 8 Tryd.underlying53 Hi.out Hz.out Hz1.out Hz2.out rfl (by decide) _ k (List.replicate k (.int .i64 (-1))) rfl HOA.out ⟨wr.heap.size, 0, none⟩ 1 1 [.int .i64 (-1)] rfl rfl Hcl.out (by simp [Value.oneCell']) (by unfold maxLen; omega) (by omega) HBS.out ?_)
        intro v5 w5 hown5 hgrow _ _
        obtain ⟨va5, vc5, rfl⟩ := row_lens hown5
        obtain ⟨⟨c5, f5⟩, hN5⟩ := HGR.out w5 _ hgrow hown5
        have HN5 := Lib.hid hN5
        clear hgrow hown5 hN5
        go_wp2_with fail
        go_roundw
        case rel => exact ⟨k + 1, _, by omega, by go_num, HN5.out⟩
        case measure => simp [intOf]; omega
      · have ek : k = 8 := by omega
        have e0 : decide ((k : Int) < 8) = false := by simp; omega
        subst ek
        have HN := Lib.hid hN
        clear hN
        go_wp2_with fail
        go_ret
        obtain ⟨g, cap, h2, -⟩ : ∃ g cap, ov = .slice (some ⟨g, 0, none⟩) 8 cap ∧ True := by
          rcases ownsRow_form HN.out.row with ⟨-, h1⟩ | ⟨g, cap, h1, _⟩
          · have := h1.1; omega
          · exact ⟨g, cap, h1, trivial⟩
        subst h2
        have hN := HN.out
        obtain ⟨n1, n2, n3⟩ := hN.ne
        obtain ⟨l1, l2, l3, l4⟩ := hN.lt
        obtain ⟨g1, g2, g3⟩ := hN.ge
        have hgB : B ≤ g := (hN.row.lt g rfl).1
        refine ⟨b, g, gs, gd, cap, rfl, ⟨hN.c0, hN.c1, hN.c2, fun c hc => ?_, hN.s, hN.d, fun o => World.ownsRow.frozenAt hN.row o, hN.fs, hN.fd, by omega⟩, hN.bl, fun q hq => ?_⟩
        · rw [World.ownsRow.cellAt hN.row c (by omega)]
          rw [List.getElem?_replicate, if_pos hc]
        · rcases hq with rfl | rfl | rfl | rfl <;> omega
end
end Go.Proofs.YtfjfkmoofmncnaaDoor
/- The reference's service in memory; lives, Clash, free. -/
namespace Go.Proofs.YtfjfkmoofmncnaaDoor
open Go.RowKit
/-- Where a service of the reference lies. -/
structure RP where
  b : Nat
  tb : Nat
  kb : Nat
  gt : Nat
  gs : Nat
  gd : Nat
  ct : Nat
  yb : Nat
  yc : Nat
  tv : Value
  wv : Value
def yv (o : Option Nat) : Int := match o with
  | some x => (x : Int)
  | none => -1
/-- Its parts lie apart. -/
structure Cols (col : Nat → Nat) (p : RP) : Prop where
  b : col p.b = 0
  t : col p.tb = 1
  tv : ∀ k, p.tv.ownBlock = some k → col k = 1
  k : ∀ k, fpR p.kb p.gt p.gs p.gd k → col k = 2
  w : ∀ k, p.wv.ownBlock = some k → col k = 3
  y : col p.yb = 4
def fpS (p : RP) (k : Nat) : Prop := k = p.b ∨ k = p.tb ∨ p.tv.ownBlock = some k ∨ fpR p.kb p.gt p.gs p.gd k ∨ p.wv.ownBlock = some k ∨ k = p.yb
/-- What a service's methods may turn. -/
def fpF (p : RP) (k : Nat) : Prop := k = p.b ∨ k = p.tb ∨ k = p.gt ∨ k = p.gs ∨ k = p.gd ∨ k = p.yb
structure IsRS (w : World) (p : RP) (s : GS) : Prop where
  c0 : w.cell? ⟨p.b, 0, none⟩ = some (.pointer (some ⟨p.tb, 0, none⟩))
  c1 : w.cell? ⟨p.b, 1, none⟩ = some (.pointer (some ⟨p.kb, 0, none⟩))
  c2 : w.cell? ⟨p.b, 2, none⟩ = some p.wv
  c3 : w.cell? ⟨p.b, 3, none⟩ = some (.int .i64 (s.last : Int))
  c4 : w.cell? ⟨p.b, 4, none⟩ = some (.slice (some ⟨p.yb, 0, none⟩) 8 p.yc)
  fro : ∀ o, w.frozen? ⟨p.b, o, none⟩ = false
  tab : IsRT w p.tb p.tv (holdsOf s.R)
  book : IsRB w p.kb p.gt p.gs p.gd p.ct s.B
  row : w.ownsRow 0 57 4 p.wv s.wait.length (hrows s.wait)
  y : ∀ i, i < 8 → w.cell? ⟨p.yb, i, none⟩ = some (.int .i64 (yv (s.by' i)))
  yf : ∀ o, w.frozen? ⟨p.yb, o, none⟩ = false
  dj : ∃ col, Cols col p
section
variable {w w' : World} {p : RP} {s : GS}
theorem IsRS.lt (h : IsRS w p s) : ∀ k, fpS p k → k < w.heap.size := by
  intro k hk
  rcases hk with rfl | rfl | hk | hk | hk | rfl
  · exact World.block_lt_of_cell? w _ h.c0
  · exact h.tab.lt
  · exact (h.tab.row.lt k hk).2
  · exact h.book.lt k hk
  · exact (h.row.lt k hk).2
  · exact World.block_lt_of_cell? w _ (h.y 0 (by omega))
theorem IsRS.keep (h : IsRS w p s) (hk : ∀ k, fpS p k → w'.heap[k]? = w.heap[k]?) : IsRS w' p s := by
  have kb := hk p.b (.inl rfl)
  have ky := hk p.yb (.inr (.inr (.inr (.inr (.inr rfl)))))
  have hc : ∀ o v, w.cell? ⟨p.b, o, none⟩ = some v → w'.cell? ⟨p.b, o, none⟩ = some v := fun o v h => (World.cell?_of_block (a := ⟨p.b, o, none⟩) kb).trans h
  exact ⟨hc _ _ h.c0, hc _ _ h.c1, hc _ _ h.c2, hc _ _ h.c3, hc _ _ h.c4, fun o => (World.frozen?_of_block (a := ⟨p.b, o, none⟩) kb).trans (h.fro o), h.tab.keep fun k hq => hk k (by rcases hq with rfl | hq; exact .inr (.inl rfl); exact .inr (.inr (.inl hq))), h.book.keep fun k hq => hk k (.inr (.inr (.inr (.inl hq)))), ownsRow_keep h.row fun k hq => hk k (.inr (.inr (.inr (.inr (.inl hq))))),
    fun i hi => (World.cell?_of_block (a := ⟨p.yb, i, none⟩) ky).trans (h.y i hi), fun o => (World.frozen?_of_block (a := ⟨p.yb, o, none⟩) ky).trans (h.yf o), h.dj⟩
theorem IsRS.below (h : IsRS w p s) (hb : Below w.heap.size w w') : IsRS w' p s := h.keep fun k hk => hb.block k (h.lt k hk)
theorem IsRS.drewN (h : IsRS w p s) (n : Nat) : IsRS (w.drewN n) p s := h.keep fun _ _ => rfl
/-- The table has turned. -/
theorem IsRS.tabs (h : IsRS w p s) {tv : Value} {R : Nat → Nat → Nat} (hT : IsRT w' p.tb tv (holdsOf R)) (hm : Moves (fun k => k = p.tb) w w') (hn : ∀ k, tv.ownBlock = some k → w.heap.size ≤ k ∨ p.tv.ownBlock = some k) :
    IsRS w' { p with tv := tv } { s with R := R } := by
  obtain ⟨col, hc⟩ := h.dj
  have hl := h.lt
  have hk : ∀ k, fpS p k → col k ≠ 1 → w'.heap[k]? = w.heap[k]? := fun k h1 h2 => hm.block k (hl k h1) (fun e => h2 (by rw [e]; exact hc.t))
  have kb := hk p.b (.inl rfl) (by rw [hc.b]; decide)
  have ky := hk p.yb (.inr (.inr (.inr (.inr (.inr rfl))))) (by rw [hc.y]; decide)
  have hcl : ∀ o v, w.cell? ⟨p.b, o, none⟩ = some v → w'.cell? ⟨p.b, o, none⟩ = some v := fun o v h => (World.cell?_of_block (a := ⟨p.b, o, none⟩) kb).trans h
  refine ⟨hcl _ _ h.c0, hcl _ _ h.c1, hcl _ _ h.c2, hcl _ _ h.c3, hcl _ _ h.c4, fun o => (World.frozen?_of_block (a := ⟨p.b, o, none⟩) kb).trans (h.fro o), hT, h.book.keep fun k hq => hk k (.inr (.inr (.inr (.inl hq)))) (by rw [hc.k k hq]; decide), ownsRow_keep h.row fun k hq => hk k (.inr (.inr (.inr (.inr (.inl hq))))) (by rw [hc.w k hq]; decide),
    fun i hi => (World.cell?_of_block (a := ⟨p.yb, i, none⟩) ky).trans (h.y i hi), fun o => (World.frozen?_of_block (a := ⟨p.yb, o, none⟩) ky).trans (h.yf o), fun k => if w.heap.size ≤ k then 1 else col k, ?_⟩
  have hc' : ∀ k, fpS p k → (if w.heap.size ≤ k then 1 else col k) = col k := fun k hk => if_neg (by have := hl k hk; omega)
  refine ⟨(hc' _ (.inl rfl)).trans hc.b, (hc' _ (.inr (.inl rfl))).trans hc.t, fun k hq => ?_, fun k hq => (hc' _ (.inr (.inr (.inr (.inl hq))))).trans (hc.k k hq), fun k hq => (hc' _ (.inr (.inr (.inr (.inr (.inl hq)))))).trans (hc.w k hq), (hc' _ (.inr (.inr (.inr (.inr (.inr rfl)))))).trans hc.y⟩
  rcases hn k hq with h1 | h1
  · exact if_pos h1
  · exact (hc' _ (.inr (.inr (.inl h1)))).trans (hc.tv k h1)
/-- The book has turned. -/
theorem IsRS.books (h : IsRS w p s) {B : Nat → Ent} (hB : IsRB w' p.kb p.gt p.gs p.gd p.ct B) (hm : Moves (fun k => k = p.gt ∨ k = p.gs ∨ k = p.gd) w w') : IsRS w' p { s with B := B } := by
  obtain ⟨col, hc⟩ := h.dj
  have hl := h.lt
  have hk : ∀ k, fpS p k → col k ≠ 2 → w'.heap[k]? = w.heap[k]? := fun k h1 h2 => hm.block k (hl k h1) (fun e => h2 (hc.k k (.inr e)))
  have kb := hk p.b (.inl rfl) (by rw [hc.b]; decide)
  have ky := hk p.yb (.inr (.inr (.inr (.inr (.inr rfl))))) (by rw [hc.y]; decide)
  have hcl : ∀ o v, w.cell? ⟨p.b, o, none⟩ = some v → w'.cell? ⟨p.b, o, none⟩ = some v := fun o v h => (World.cell?_of_block (a := ⟨p.b, o, none⟩) kb).trans h
  exact ⟨hcl _ _ h.c0, hcl _ _ h.c1, hcl _ _ h.c2, hcl _ _ h.c3, hcl _ _ h.c4, fun o => (World.frozen?_of_block (a := ⟨p.b, o, none⟩) kb).trans (h.fro o), h.tab.keep fun k hq => hk k (by rcases hq with rfl | hq; exact .inr (.inl rfl); exact .inr (.inr (.inl hq))) (by rcases hq with rfl | hq; rw [hc.t]; decide; rw [hc.tv k hq]; decide), hB, ownsRow_keep h.row fun k hq => hk k (.inr (.inr (.inr (.inr (.inl hq))))) (by rw [hc.w k hq]; decide),
    fun i hi => (World.cell?_of_block (a := ⟨p.yb, i, none⟩) ky).trans (h.y i hi), fun o => (World.frozen?_of_block (a := ⟨p.yb, o, none⟩) ky).trans (h.yf o), h.dj⟩
/-- The last number is told. -/
theorem IsRS.lasts (h : IsRS w p s) (m : Nat) : IsRS (w.setCell ⟨p.b, 3, none⟩ (.int .i64 (m : Int))) p { s with last := m } := by
  obtain ⟨col, hc⟩ := h.dj
  have hk : ∀ k, col k ≠ 0 → (w.setCell ⟨p.b, 3, none⟩ (.int .i64 (m : Int))).heap[k]? = w.heap[k]? := fun k hk => Below.heap_setCell _ _ _ _ (fun e => hk (by rw [e]; exact hc.b))
  have ky := hk p.yb (by rw [hc.y]; decide)
  refine ⟨?_, ?_, ?_, World.cell?_setCell_same _ _ _ h.c3, ?_, fun o => by rw [World.frozen?_setCell]; exact h.fro o, h.tab.keep fun k hq => hk k (by rcases hq with rfl | hq; rw [hc.t]; decide; rw [hc.tv k hq]; decide), h.book.keep fun k hq => hk k (by rw [hc.k k hq]; decide), ownsRow_keep h.row fun k hq => hk k (by rw [hc.w k hq]; decide),
    fun i hi => (World.cell?_of_block (a := ⟨p.yb, i, none⟩) ky).trans (h.y i hi), fun o => (World.frozen?_of_block (a := ⟨p.yb, o, none⟩) ky).trans (h.yf o), h.dj⟩
  · rw [oth_cell _ _ _ (by omega)]; exact h.c0
  · rw [oth_cell _ _ _ (by omega)]; exact h.c1
  · rw [oth_cell _ _ _ (by omega)]; exact h.c2
  · rw [oth_cell _ _ _ (by omega)]; exact h.c4
/-- Another row waits. -/
theorem IsRS.waits (h : IsRS w p s) {wv : Value} {l : List Hd} (hr : w.ownsRow 0 57 4 wv l.length (hrows l)) (hn : ∀ k, wv.ownBlock = some k → k ≠ p.b ∧ k ≠ p.tb ∧ p.tv.ownBlock ≠ some k ∧ ¬ fpR p.kb p.gt p.gs p.gd k ∧ k ≠ p.yb) :
    IsRS (w.setCell ⟨p.b, 2, none⟩ wv) { p with wv := wv } { s with wait := l } := by
  obtain ⟨col, hc⟩ := h.dj
  have hk : ∀ k, col k ≠ 0 → (w.setCell ⟨p.b, 2, none⟩ wv).heap[k]? = w.heap[k]? := fun k hk => Below.heap_setCell _ _ _ _ (fun e => hk (by rw [e]; exact hc.b))
  have ky := hk p.yb (by rw [hc.y]; decide)
  refine ⟨?_, ?_, World.cell?_setCell_same _ _ _ h.c2, ?_, ?_, fun o => by rw [World.frozen?_setCell]; exact h.fro o, h.tab.keep fun k hq => hk k (by rcases hq with rfl | hq; rw [hc.t]; decide; rw [hc.tv k hq]; decide), h.book.keep fun k hq => hk k (by rw [hc.k k hq]; decide), ownsRow_keep hr fun k hq => Below.heap_setCell _ _ _ _ (hn k hq).1,
    fun i hi => (World.cell?_of_block (a := ⟨p.yb, i, none⟩) ky).trans (h.y i hi), fun o => (World.frozen?_of_block (a := ⟨p.yb, o, none⟩) ky).trans (h.yf o), fun k => if wv.ownBlock = some k then 3 else col k, ?_⟩
  · rw [oth_cell _ _ _ (by omega)]; exact h.c0
  · rw [oth_cell _ _ _ (by omega)]; exact h.c1
  · rw [oth_cell _ _ _ (by omega)]; exact h.c3
  · rw [oth_cell _ _ _ (by omega)]; exact h.c4
  · exact ⟨(if_neg fun e => (hn _ e).1 rfl).trans hc.b, (if_neg fun e => (hn _ e).2.1 rfl).trans hc.t, fun k hq => (if_neg fun e => (hn _ e).2.2.1 hq).trans (hc.tv k hq), fun k hq => (if_neg fun e => (hn _ e).2.2.2.1 hq).trans (hc.k k hq), fun k hq => if_pos hq, (if_neg fun e => (hn _ e).2.2.2.2 rfl).trans hc.y⟩
/-- Who recovers whom is told. -/
theorem IsRS.bys (h : IsRS w p s) (i : Nat) (o : Option Nat) : IsRS (w.setCell ⟨p.yb, i, none⟩ (.int .i64 (yv o))) p { s with by' := updO s.by' i o } := by
  obtain ⟨col, hc⟩ := h.dj
  have hk : ∀ k, col k ≠ 4 → (w.setCell ⟨p.yb, i, none⟩ (.int .i64 (yv o))).heap[k]? = w.heap[k]? := fun k hk => Below.heap_setCell _ _ _ _ (fun e => hk (by rw [e]; exact hc.y))
  have kb := hk p.b (by rw [hc.b]; decide)
  have hcl : ∀ o' v, w.cell? ⟨p.b, o', none⟩ = some v → (w.setCell ⟨p.yb, i, none⟩ (.int .i64 (yv o))).cell? ⟨p.b, o', none⟩ = some v := fun o' v h => (World.cell?_of_block (a := ⟨p.b, o', none⟩) kb).trans h
  refine ⟨hcl _ _ h.c0, hcl _ _ h.c1, hcl _ _ h.c2, hcl _ _ h.c3, hcl _ _ h.c4, fun o => (World.frozen?_of_block (a := ⟨p.b, o, none⟩) kb).trans (h.fro o), h.tab.keep fun k hq => hk k (by rcases hq with rfl | hq; rw [hc.t]; decide; rw [hc.tv k hq]; decide), h.book.keep fun k hq => hk k (by rw [hc.k k hq]; decide), ownsRow_keep h.row fun k hq => hk k (by rw [hc.w k hq]; decide),
    fun j hj => ?_, fun o => by rw [World.frozen?_setCell]; exact h.yf o, h.dj⟩
  show (w.setCell ⟨p.yb, i, none⟩ (.int .i64 (yv o))).cell? ⟨p.yb, j, none⟩ = some (.int .i64 (yv (updO s.by' i o j)))
  unfold updO
  by_cases e : j = i
  · subst e; rw [if_pos rfl]; exact World.cell?_setCell_same _ _ _ (h.y j hj)
  · rw [if_neg e, oth_cell _ _ _ e]; exact h.y j hj
theorem rlivesB (B : Nat → Ent) (c : Nat) : (!(decide (c < 8) && (B c).dead) && decide ((0 : Int) ≤ (if c < 8 then (B c).till else -1))) = livesB B c := by
  unfold livesB
  by_cases h : c < 8
  · rw [decide_eq_true h, if_pos h]; simp
  · rw [decide_eq_false h, if_neg h]; simp
set_option maxRecDepth 100000 in
theorem rlives_any (h : IsRS w p s) (c : Nat) : Calls Tryd.prog 66 #[.pointer (some ⟨p.b, 0, none⟩), .int .i64 (c : Int)] w fun e w' => e = .returned (.bool (livesB s.B c)) ∧ w = w' := by
  have c1 := h.c1
  have hd := rdead_any h.book c
  have hu := runtil_any h.book c
  rw [← rlivesB]
  clear h
  generalize (if c < 8 then (s.B c).till else -1) = U at hu ⊢
  cases hq : (decide (c < 8) && (s.B c).dead) with
  | true =>
    rw [hq] at hd
    clear hq
    go_enter Tryd.func66, Tryd.ntmps66
    go_wp2_with (first | (go_at_call 64; refine hd.mono ?_; clear hd; rintro e w1 ⟨rfl, rfl⟩) | (go_at_call 83; refine hu.mono ?_; clear hu; rintro e w1 ⟨rfl, rfl⟩))
    go_ret
    exact ⟨by first | rfl | simp, rfl⟩
  | false =>
    rw [hq] at hd
    clear hq
    go_enter Tryd.func66, Tryd.ntmps66
    go_wp2_with (first | (go_at_call 64; refine hd.mono ?_; clear hd; rintro e w1 ⟨rfl, rfl⟩) | (go_at_call 83; refine hu.mono ?_; clear hu; rintro e w1 ⟨rfl, rfl⟩))
    go_ret
    exact ⟨by first | rfl | simp, rfl⟩
set_option maxRecDepth 100000 in
set_option maxHeartbeats 4000000 in
theorem rclash_any (o x : Hd) : Calls Tryd.prog 86 #[o.val, x.val] w fun e w' => e = .returned (.bool (metB x o)) ∧ Below w.heap.size w w' := by
  have hbA : Below w.heap.size w ((w.alloc (.cells #[.int .i64 (o.a : Int), .int .i64 (o.b : Int), .int .i64 (o.c : Int), .int .i64 (o.m : Int)] 57)).alloc (.cells #[.int .i64 (x.a : Int), .int .i64 (x.b : Int), .int .i64 (x.c : Int), .int .i64 (x.m : Int)] 57)) := ((Below.refl _ _).alloc (Nat.le_refl _) _).alloc (by simp) _
  have hoa := (HX.made w o 57).below ((Below.refl _ _).alloc (Nat.le_refl _) (.cells #[.int .i64 (x.a : Int), .int .i64 (x.b : Int), .int .i64 (x.c : Int), .int .i64 (x.m : Int)] 57))
  have hxa := HX.made (w.alloc (.cells #[.int .i64 (o.a : Int), .int .i64 (o.b : Int), .int .i64 (o.c : Int), .int .i64 (o.m : Int)] 57)) x 57
  have hmeet := meet_any (w := (w.alloc (.cells #[.int .i64 (o.a : Int), .int .i64 (o.b : Int), .int .i64 (o.c : Int), .int .i64 (o.m : Int)] 57)).alloc (.cells #[.int .i64 (x.a : Int), .int .i64 (x.b : Int), .int .i64 (x.c : Int), .int .i64 (x.m : Int)] 57)) o.a o.b x.a x.b
  rw [World.size_alloc] at hxa
  have HOA := Lib.hid hoa
  have HXA := Lib.hid hxa
  have HBA := Lib.hid hbA
  clear hoa hxa hbA
  obtain ⟨T, hT⟩ : ∃ T, T = metB x o := ⟨_, rfl⟩
  have hcs : (((o.c : Int) != (x.c : Int)) = false ∧ T = false) ∨ (((o.c : Int) != (x.c : Int)) = true ∧ ¬ max o.a x.a < min o.b x.b ∧ T = false) ∨ (((o.c : Int) != (x.c : Int)) = true ∧ max o.a x.a < min o.b x.b ∧ ((o.m : Int) == 2) = true ∧ T = true) ∨ (((o.c : Int) != (x.c : Int)) = true ∧ max o.a x.a < min o.b x.b ∧ ((o.m : Int) == 2) = false ∧ ((x.m : Int) == 2) = true ∧ T = true) ∨ (((o.c : Int) != (x.c : Int)) = true ∧ max o.a x.a < min o.b x.b ∧ ((o.m : Int) == 2) = false ∧ ((x.m : Int) == 2) = false ∧ T = false) := by
    rw [hT]
    unfold metB
    by_cases h1 : o.c = x.c
    · left; exact ⟨by simp [h1], by simp [h1]⟩
    · by_cases h2 : max o.a x.a < min o.b x.b
      · by_cases h3 : o.m = 2
        · right; right; left; exact ⟨by simp; omega, h2, by simp [h3], by rw [decide_eq_true h1, decide_eq_true h2, decide_eq_true h3]; rfl⟩
        · by_cases h4 : x.m = 2
          · right; right; right; left; exact ⟨by simp; omega, h2, by simp; omega, by simp [h4], by rw [decide_eq_true h1, decide_eq_true h2, decide_eq_true h4]; simp⟩
          · right; right; right; right; exact ⟨by simp; omega, h2, by simp; omega, by simp; omega, by rw [decide_eq_false h3, decide_eq_false h4]; simp⟩
      · right; left; exact ⟨by simp; omega, h2, by rw [decide_eq_false h2]; simp⟩
  rw [← hT]
  clear hT
  obtain ⟨MA, hMA⟩ : ∃ MA, MA = max o.a x.a := ⟨_, rfl⟩
  obtain ⟨MB, hMB⟩ : ∃ MB, MB = min o.b x.b := ⟨_, rfl⟩
  rw [← hMA, ← hMB] at hcs hmeet
  clear hMA hMB
  unfold rng at hmeet
  unfold Hd.val
  rcases hcs with ⟨t1, tt⟩ | ⟨t1, t2, tt⟩ | ⟨t1, t2, t3, tt⟩ | ⟨t1, t2, t3, t4, tt⟩ | ⟨t1, t2, t3, t4, tt⟩
  all_goals
    rw [tt]
    clear tt
    go_enter Tryd.func86, Tryd.ntmps86
    go_wp2_with (go_at_call 84
                 refine hmeet.mono ?_
                 clear hmeet
                 rintro e w1 ⟨rfl, hb1⟩
                 have hbB : Below w1.heap.size w1 (w1.alloc (.cells #[.int .i64 (MA : Int), .int .i64 (MB : Int)] 34)) := (Below.refl _ _).alloc (Nat.le_refl _) _
                 have hbC := hb1.trans (hbB.mono hb1.size)
                 obtain ⟨o0, o1, o2, o3⟩ := (HOA.out.below hbC).cell
                 obtain ⟨x0, x1, x2, x3⟩ := (HXA.out.below hbC).cell
                 have HB1 := Lib.hid (HBA.out.trans (hbC.mono HBA.out.size))
                 clear hb1 hbB hbC)
    go_ret
    exact ⟨by first | rfl | simp, HB1.out⟩
/-- The two ways to tell a clash. -/
theorem met_clash {x o : Hd} (hx : x.m ≤ 2) (ho : o.m ≤ 2) : metB x o = clashB o x := by
  unfold metB clashB
  rw [Bool.and_assoc]
  congr 1
  congr 1
  rw [Bool.eq_iff_iff]
  simp only [Bool.or_eq_true, decide_eq_true_eq]
  omega
end
end Go.Proofs.YtfjfkmoofmncnaaDoor
/- The reference's service: free. -/
namespace Go.Proofs.YtfjfkmoofmncnaaDoor
open Go.RowKit
section
variable {w w' : World} {p : RP} {s : GS}
theorem agB_met (R : Nat → Nat → Nat) (x : Hd) : (holdsOf R).any (metB x) = agB R x := met_any R x
set_option maxRecDepth 100000 in
set_option maxHeartbeats 8000000 in
theorem rfree_any (h : IsRS w p s) (x : Hd) (hx : x.m ≤ 2) {base : Nat} {v : Value} (l : List Hd) (hl : l.length ≤ 1000000) (ho : w.ownsRow base 57 4 v l.length (hrows l)) (hm : ∀ o ∈ l, o.m ≤ 2) :
    Calls Tryd.prog 77 #[.pointer (some ⟨p.b, 0, none⟩), x.val, v] w fun e w' => e = .returned (.bool (freeB s.R x l)) ∧ Below w.heap.size w w' := by
  obtain ⟨va, vc, rfl⟩ := row_lens ho
  have hbA : Below w.heap.size w (w.alloc (.cells #[.int .i64 (x.a : Int), .int .i64 (x.b : Int), .int .i64 (x.c : Int), .int .i64 (x.m : Int)] 57)) := (Below.refl _ _).alloc (Nat.le_refl _) _
  have hxa := HX.made w x 57
  have H := Lib.hid h
  have HO := Lib.hid ho
  have HMO := Lib.hid hm
  obtain ⟨W0, hW0⟩ : ∃ W0, W0 = w.alloc (.cells #[.int .i64 (x.a : Int), .int .i64 (x.b : Int), .int .i64 (x.c : Int), .int .i64 (x.m : Int)] 57) := ⟨_, rfl⟩
  rw [← hW0] at hbA hxa
  have HBA := Lib.hid hbA
  have HXA := Lib.hid hxa
  have HW0 := Lib.hid hW0
  clear h ho hm hbA hxa hW0
  unfold Hd.val
  go_enter Tryd.func77, Tryd.ntmps77
  go_wp2_with fail
  rw [← HW0.out]
  go_loopw [7] (fun i wr => ∃ j : Nat, j ≤ l.length ∧ i = .int .i64 (j : Int) ∧ Below w.heap.size w wr ∧ HX wr w.heap.size x ∧ ∀ q o, q < j → l[q]? = some o → clashB o x = false) (fun i _ => l.length - (intOf i).toNat)
  case atStart => exact ⟨0, Nat.zero_le _, rfl, HBA.out, HXA.out, fun q o hq => by omega⟩
  case round =>
    obtain ⟨j, hj, rfl, hb, hxr, hno⟩ := hrel
    by_cases hlt : j < l.length
    · obtain ⟨o, hoj⟩ : ∃ o, l[j]? = some o := ⟨_, List.getElem?_eq_getElem hlt⟩
      have e0 : decide ((j : Int) < (l.length : Int)) = true := by simpa using hlt
      obtain ⟨g, cap', ev, hc⟩ := hrowcell (ownsRow_keep HO.out fun q hq => hb.block q (HO.out.lt q hq).2) hoj
      injection ev with ev1 ev2 ev3
      subst ev1
      have d0 := hc 0 _ rfl
      have d1 := hc 1 _ rfl
      have d2 := hc 2 _ rfl
      have d3 := hc 3 _ rfl
      rw [Nat.add_zero] at d0
      obtain ⟨x0, x1, x2, x3⟩ := hxr.cell
      have hcl := rclash_any (w := wr.drew) o x
      rw [met_clash hx (HMO.out o (List.mem_of_getElem? hoj))] at hcl
      have HB := Lib.hid hb
      have HXR := Lib.hid hxr
      have HNO := Lib.hid hno
      have HOJ := Lib.hid hoj
      clear hb hxr hno hoj hc ev2 ev3
      unfold Hd.val at hcl
      go_upto_region 4 with (fail)
      refine wp_region_still_tail 5 (by kernel_rfl) (by kernel_rfl) ?_
      simp only [List.take_succ_cons, List.take_zero, List.drop_succ_cons, List.drop_zero]
      iterate 5 still_step
      refine wpStill_nil ?_
      cases hcb : clashB o x with
      | true =>
        rw [hcb] at hcl
        have hF : freeB s.R x l = false := by
          unfold freeB
          rw [show (l.any fun o => clashB o x) = true from List.any_eq_true.2 ⟨o, List.mem_of_getElem? HOJ.out, hcb⟩]
          rfl
        have HF := Lib.hid hF
        clear hcb hF
        go_wp2_with (go_at_call 86
                     refine hcl.mono ?_
                     clear hcl
                     rintro e w1 ⟨rfl, hb1⟩
                     have HB1 := Lib.hid (HB.out.drew.trans (hb1.mono HB.out.drew.size))
                     clear hb1)
        go_ret
        rw [HF.out]
        exact ⟨rfl, HB1.out⟩
      | false =>
        rw [hcb] at hcl
        have hno2 : ∀ q y, q < j + 1 → l[q]? = some y → clashB y x = false := fun q y hq hy => by
          by_cases e : q = j
          · subst e; rw [HOJ.out] at hy; cases hy; exact hcb
          · exact HNO.out q y (by omega) hy
        have HNO2 := Lib.hid hno2
        clear hcb hno2
        go_wp2_with (go_at_call 86
                     refine hcl.mono ?_
                     clear hcl
                     rintro e w1 ⟨rfl, hb1⟩
                     have HB1 := Lib.hid (HB.out.drew.trans (hb1.mono HB.out.drew.size))
                     have HX1 := Lib.hid ((HXR.out.keep (w' := wr.drew) (Nat.le_refl _) rfl).below hb1)
                     clear hb1)
        go_roundw
        case rel => exact ⟨j + 1, by omega, by go_num, HB1.out, HX1.out, HNO2.out⟩
        case measure => simp [intOf]; omega
    · have ej : j = l.length := by omega
      have e0 : decide ((j : Int) < (l.length : Int)) = false := by simp; omega
      have hS := H.out.below hb
      have c0 := hS.c0
      have hag := against_ref (w := wr.drew) (hS.keep (w' := wr.drew) fun _ _ => rfl).tab (rholds_len s.R) x
      rw [agB_met] at hag
      have hF : freeB s.R x l = !agB s.R x := by
        unfold freeB
        rw [show (l.any fun o => clashB o x) = false from List.any_eq_false.2 fun o ho => by
          obtain ⟨q, hq⟩ := List.mem_iff_getElem?.1 ho
          rw [hno q o (by have := (List.getElem?_eq_some_iff.1 hq).1; omega) hq]
          decide]
        rfl
      obtain ⟨x0, x1, x2, x3⟩ := hxr.cell
      have HB := Lib.hid hb
      have HF := Lib.hid hF
      clear hb hxr hno hS hF ej
      unfold Hd.val at hag
      go_upto_region 6 with (fail)
      refine wp_region_still_tail 5 (by kernel_rfl) (by kernel_rfl) ?_
      simp only [List.take_succ_cons, List.take_zero, List.drop_succ_cons, List.drop_zero]
      iterate 5 still_step
      refine wpStill_nil ?_
      cases hq : agB s.R x
      all_goals
        rw [hq] at hag
        have HQ := Lib.hid hq
        clear hq
        go_wp2_with (go_at_call 79
                     refine hag.mono ?_
                     clear hag
                     rintro e w1 ⟨⟨sv, n, xs, rfl, hsr, hn⟩, hb1⟩
                     obtain ⟨sva, svc, rfl⟩ := row_lens hsr
                     have HB1 := Lib.hid (HB.out.drew.trans (hb1.mono HB.out.drew.size))
                     have HN := Lib.hid hn
                     clear hb1 hsr hn)
        go_ret
        rw [HF.out, HQ.out]
        refine ⟨?_, HB1.out⟩
        have hn := HN.out
        first
          | (have h1 := of_decide_eq_true hn
             have h2 : ((n : Int) == 0) = false := by simp; omega
             first | rw [h2]; rfl | simp; omega)
          | (have h1 := of_decide_eq_false hn
             have h2 : n = 0 := by omega
             subst h2
             first | rfl | simp)
end
end Go.Proofs.YtfjfkmoofmncnaaDoor
