/- The reference's methods: the boxes that each lays; what each ends in; recovering. -/
import Derived.Test.YtfjfkmoofmncnaaDoorRj
import Derived.Test.YtfjfkmoofmncnaaDoorGc
namespace Go.Proofs.YtfjfkmoofmncnaaDoor
open Go.RowKit
/-- A method's world: the service, the command's box, the answer's box. -/
structure RM (w X : World) (p : RP) (tv wv : Value) (s : GS) (c : Cm) : Prop where
  svc : IsRS X { p with tv := tv, wv := wv } s
  cb : CBox X w.heap.size c
  r : ∀ o, o < 5 → ∃ u, X.cell? ⟨w.heap.size + 1, o, none⟩ = some u
  rf : ∀ o, X.frozen? ⟨w.heap.size + 1, o, none⟩ = false
  mv : Moves (fpF p) w X
  sz : w.heap.size + 2 ≤ X.heap.size
  fl : ∀ k, fpF p k → k < w.heap.size
  sp : ∀ k, k = w.heap.size ∨ k = w.heap.size + 1 → ¬ fpS { p with tv := tv, wv := wv } k
  ow : ∀ k, tv.ownBlock = some k ∨ wv.ownBlock = some k → w.heap.size ≤ k ∨ p.tv.ownBlock = some k ∨ p.wv.ownBlock = some k
/-- What a method ends in. -/
def RKPost (w : World) (p : RP) (s' : GS) (e : Ending) (w' : World) : Prop := (∃ v, e = .returned v ∧ AnsV v) ∧ RSPost w p s' w'
section
variable {w X X' : World} {p : RP} {tv wv tv' wv' : Value} {s s' : GS} {c : Cm}
theorem fpF_S {p : RP} {k : Nat} (h : fpF p k) : fpS p k := by
  rcases h with h | h | h | h | h | h
  · exact .inl h
  · exact .inr (.inl h)
  · exact .inr (.inr (.inr (.inl (.inr (.inl h)))))
  · exact .inr (.inr (.inr (.inl (.inr (.inr (.inl h))))))
  · exact .inr (.inr (.inr (.inl (.inr (.inr (.inr h))))))
  · exact .inr (.inr (.inr (.inr (.inr h))))
theorem RM.next (h : RM w X p tv wv s c) (hs : IsRS X' { p with tv := tv', wv := wv' } s') (hm : Moves (fpF p) X X') (hn : ∀ k, tv'.ownBlock = some k ∨ wv'.ownBlock = some k → w.heap.size + 2 ≤ k ∨ tv.ownBlock = some k ∨ wv.ownBlock = some k) : RM w X' p tv' wv' s' c := by
  have hsz := h.sz
  have hk : ∀ k, w.heap.size ≤ k → k < w.heap.size + 2 → X'.heap[k]? = X.heap[k]? := fun k h1 h2 => hm.block k (by omega) fun hg => by have := h.fl k hg; omega
  refine ⟨hs, fun j u hj => (World.cell?_of_block (a := ⟨w.heap.size, j, none⟩) (hk w.heap.size (by omega) (by omega))).trans (h.cb j u hj), fun o ho' => ?_, fun o => (World.frozen?_of_block (a := ⟨w.heap.size + 1, o, none⟩) (hk (w.heap.size + 1) (by omega) (by omega))).trans (h.rf o), h.mv.trans hm fun i hi => .inl hi, Nat.le_trans hsz hm.size, h.fl, fun k hk' hf => ?_, fun k hk => by
    rcases hn k hk with h1 | h1
    · exact .inl (by omega)
    · exact h.ow k h1⟩
  · obtain ⟨u, hu⟩ := h.r o ho'
    exact ⟨u, (World.cell?_of_block (a := ⟨w.heap.size + 1, o, none⟩) (hk (w.heap.size + 1) (by omega) (by omega))).trans hu⟩
  · have hlt : k < X.heap.size := by omega
    have ht : ∀ q, tv.ownBlock = some q → ¬ (q = w.heap.size ∨ q = w.heap.size + 1) := fun q hq e => h.sp q e (.inr (.inr (.inl hq)))
    have hw : ∀ q, wv.ownBlock = some q → ¬ (q = w.heap.size ∨ q = w.heap.size + 1) := fun q hq e => h.sp q e (.inr (.inr (.inr (.inr (.inl hq)))))
    have hx : ∀ q, (tv'.ownBlock = some q ∨ wv'.ownBlock = some q) → q = k → False := fun q hq e => by
      subst e
      rcases hn q hq with h1 | h1 | h1
      · omega
      · exact ht q h1 hk'
      · exact hw q h1 hk'
    rcases hf with hf | hf | hf | hf | hf | hf
    · exact h.sp k hk' (.inl hf)
    · exact h.sp k hk' (.inr (.inl hf))
    · exact hx k (.inl hf) rfl
    · exact h.sp k hk' (.inr (.inr (.inr (.inl hf))))
    · exact hx k (.inr hf) rfl
    · exact h.sp k hk' (.inr (.inr (.inr (.inr (.inr hf)))))
theorem RM.below (h : RM w X p tv wv s c) (hb : Below X.heap.size X X') : RM w X' p tv wv s c := h.next (h.svc.below hb) (Moves.of_below hb) (fun _ hk => .inr hk)
theorem RM.made (h : IsRS w p s) (c : Cm) : RM w ((w.alloc (.cells c.cells.toArray 114)).alloc (.cells #[.int .i64 0, .int .i64 0, .slice none 0 0, .slice none 0 0, .slice none 0 0] 119)) p p.tv p.wv s c := by
  have hb : Below w.heap.size w ((w.alloc (.cells c.cells.toArray 114)).alloc (.cells #[.int .i64 0, .int .i64 0, .slice none 0 0, .slice none 0 0, .slice none 0 0] 119)) := ((Below.refl _ _).alloc (Nat.le_refl _) _).alloc (by simp) _
  have h1 : Below (w.alloc (.cells c.cells.toArray 114)).heap.size (w.alloc (.cells c.cells.toArray 114)) ((w.alloc (.cells c.cells.toArray 114)).alloc (.cells #[.int .i64 0, .int .i64 0, .slice none 0 0, .slice none 0 0, .slice none 0 0] 119)) := (Below.refl _ _).alloc (Nat.le_refl _) _
  have h2 := fun j => World.cell?_alloc_new (w.alloc (.cells c.cells.toArray 114)) #[.int .i64 0, .int .i64 0, .slice none 0 0, .slice none 0 0, .slice none 0 0] 119 j
  have h3 := fun j => World.frozen?_alloc_new (w.alloc (.cells c.cells.toArray 114)) #[.int .i64 0, .int .i64 0, .slice none 0 0, .slice none 0 0, .slice none 0 0] 119 j
  rw [World.size_alloc] at h2 h3
  refine ⟨h.below hb, fun j u hj => (made_cell h1 j).trans (by rw [List.getElem?_toArray]; exact hj), fun o ho => ?_, h3, Moves.of_below hb, by simp, fun k hf => h.lt k (fpF_S hf), fun k hk hf => ?_, fun k hk => .inr hk⟩
  · rw [h2]
    rcases (by omega : o = 0 ∨ o = 1 ∨ o = 2 ∨ o = 3 ∨ o = 4) with rfl | rfl | rfl | rfl | rfl <;> exact ⟨_, rfl⟩
  · have := h.lt k hf
    omega
/-- The answer is told: the end. -/
theorem RM.fin (h : RM w X p tv wv s c) {e : Ending} (v0 v1 v2 v3 v4 : Value) (he : e = .returned (.agg #[v0, v1, v2, v3, v4])) (hA : AnsV (.agg #[v0, v1, v2, v3, v4])) :
    RKPost w p s e (((((X.setCell ⟨w.heap.size + 1, 0, none⟩ v0).setCell ⟨w.heap.size + 1, 1, none⟩ v1).setCell ⟨w.heap.size + 1, 2, none⟩ v2).setCell ⟨w.heap.size + 1, 3, none⟩ v3).setCell ⟨w.heap.size + 1, 4, none⟩ v4) := by
  have hm := set5_moves X (w.heap.size + 1) v0 v1 v2 v3 v4
  have hsf := h.svc.keep fun k hk => hm.block k (h.svc.lt k hk) (fun e => h.sp k (.inr e) hk)
  exact ⟨⟨_, he, hA⟩, tv, wv, hsf, h.mv.trans hm (fun k hk => .inr (by omega)), h.ow⟩
/-- A call of serve, or of another method. -/
theorem RM.called (h : RM w X p tv wv s c) {X2 : World} {s2 : GS} (hq : RSPost X { p with tv := tv, wv := wv } s2 X2) : ∃ tv2 wv2, RM w X2 p tv2 wv2 s2 c := by
  obtain ⟨tv2, wv2, h1, h2, h3⟩ := hq
  exact ⟨tv2, wv2, h.next h1 h2 fun k hk => by
    rcases h3 k hk with h4 | h4
    · exact .inl (Nat.le_trans h.sz h4)
    · exact .inr h4⟩
set_option maxRecDepth 100000 in
theorem rrecovering_any (h : IsRS w p s) (c : Cm) : Calls Tryd.prog 65 #[.pointer (some ⟨p.b, 0, none⟩), c.val] w fun e w' => (∃ n : Int, e = .returned (.int .i64 n) ∧ (n = 0 ↔ s.recov c = true)) ∧ Below w.heap.size w w' := by
  have hbA : Below w.heap.size w (w.alloc (.cells c.cells.toArray 114)) := (Below.refl _ _).alloc (Nat.le_refl _) _
  have hS := h.below hbA
  have hcb : CBox (w.alloc (.cells c.cells.toArray 114)) w.heap.size c := fun j u hj => by rw [World.cell?_alloc_new, List.getElem?_toArray]; exact hj
  have x1 := hcb 1 _ rfl
  have x8 := hcb 8 _ rfl
  have c1 := hS.c1
  have hli := rlives_any hS c.client
  have hde := rdead_any (hS.keep (w' := (w.alloc (.cells c.cells.toArray 114)).drew) fun _ _ => rfl).book c.other
  have HBA := Lib.hid hbA
  have hrc : s.recov c = (livesB s.B c.client && (decide (c.other < 8) && (s.B c.other).dead)) := rfl
  rw [hrc]
  clear hbA hS hcb h hrc
  unfold Cm.cells at x1 x8 c1 hli hde HBA
  unfold Cm.val
  cases hq : livesB s.B c.client with
  | false =>
    rw [hq] at hli
    clear hq
    go_enter Tryd.func65, Tryd.ntmps65
    go_wp2_with (go_at_call 66; refine hli.mono ?_; clear hli; rintro e w1 ⟨rfl, hw⟩; rw [hw] at HBA; clear hw)
    go_ret
    exact ⟨⟨200, rfl, by simp⟩, HBA.out⟩
  | true =>
    rw [hq] at hli
    clear hq
    obtain ⟨D, hD⟩ : ∃ D, D = (decide (c.other < 8) && (s.B c.other).dead) := ⟨_, rfl⟩
    rw [← hD] at hde ⊢
    clear hD
    cases D
    all_goals
      go_enter Tryd.func65, Tryd.ntmps65
      go_upto_region 3 with (go_at_call 66; refine hli.mono ?_; clear hli; rintro e w1 ⟨rfl, hw⟩; rw [hw] at x1 x8 c1 hde HBA; clear hw)
      refine wp_region_still_tail 6 (by kernel_rfl) (by kernel_rfl) ?_
      simp only [List.take_succ_cons, List.take_zero, List.drop_succ_cons, List.drop_zero]
      iterate 6 still_step
      refine wpStill_nil ?_
      go_wp2_with (go_at_call 64; refine hde.mono ?_; clear hde; rintro e w2 ⟨rfl, rfl⟩)
      go_ret
      first
        | exact ⟨⟨3, rfl, by simp⟩, HBA.out.drew⟩
        | exact ⟨⟨0, rfl, by simp⟩, HBA.out.drew⟩
end
end Go.Proofs.YtfjfkmoofmncnaaDoor
