/- The commands' methods: the boxes that each lays; what each ends in; recovering, release, weaken, renew. -/
import Derived.Test.YtfjfkmoofmncnaaDoorSe
namespace Go.Proofs.YtfjfkmoofmncnaaDoor
open Go.RowKit
namespace Cm
def cells (c : Cm) : List Value := [.int .i64 (c.kind : Int), .int .i64 (c.client : Int), .int .i64 (c.seq : Int), .int .i64 (c.now : Int), .int .i64 (c.len : Int), .int .i64 (c.a : Int), .int .i64 (c.b : Int), .int .i64 (c.mode : Int), .int .i64 (c.other : Int)]
def val (c : Cm) : Value := .agg #[.int .i64 (c.kind : Int), .int .i64 (c.client : Int), .int .i64 (c.seq : Int), .int .i64 (c.now : Int), .int .i64 (c.len : Int), .int .i64 (c.a : Int), .int .i64 (c.b : Int), .int .i64 (c.mode : Int), .int .i64 (c.other : Int)]
end Cm
/-- A command's box. -/
def CBox (w : World) (B : Nat) (c : Cm) : Prop := ∀ j u, c.cells[j]? = some u → w.cell? ⟨B, j, none⟩ = some u
/-- A method's world: the service, the command's box, the answer's box. -/
structure MB (w X : World) (b tb kb mb : Nat) (wv0 wv : Value) (n : Nat) (s : GS) (c : Cm) : Prop where
  svc : IsSvc X b tb kb mb wv n s
  cb : CBox X w.heap.size c
  r : ∀ o, o < 5 → ∃ u, X.cell? ⟨w.heap.size + 1, o, none⟩ = some u
  rf : ∀ o, X.frozen? ⟨w.heap.size + 1, o, none⟩ = false
  mv : Moves (fps b tb kb mb wv0) w X
  sz : w.heap.size + 2 ≤ X.heap.size
  fl : ∀ k, fps b tb kb mb wv0 k ∨ k = 1 → k < w.heap.size
  ow : ∀ k, wv.ownBlock = some k → wv0.ownBlock = some k ∨ w.heap.size + 2 ≤ k
/-- What a method ends in. -/
def MPost (w : World) (b tb kb mb : Nat) (wv : Value) (n : Nat) (s' : GS) (e : Ending) (w' : World) : Prop :=
  (∃ v, e = .returned v ∧ AnsV v) ∧ ∃ wv' n', n' ≤ n + 1 ∧ IsSvc w' b tb kb mb wv' n' s' ∧ Moves (fps b tb kb mb wv) w w' ∧ ∀ k, wv'.ownBlock = some k → wv.ownBlock = some k ∨ w.heap.size ≤ k
section
variable {w X X' : World} {b tb kb mb n n' : Nat} {wv0 wv wv' : Value} {s s' : GS} {c : Cm}
theorem MB.next (h : MB w X b tb kb mb wv0 wv n s c) {G : Nat → Prop} (hs : IsSvc X' b tb kb mb wv' n' s') (hm : Moves G X X') (hG : ∀ k, G k → fps b tb kb mb wv0 k ∨ w.heap.size + 2 ≤ k) (ho : ∀ k, wv'.ownBlock = some k → wv0.ownBlock = some k ∨ w.heap.size + 2 ≤ k) : MB w X' b tb kb mb wv0 wv' n' s' c := by
  have hsz := h.sz
  have hk : ∀ k, w.heap.size ≤ k → k < w.heap.size + 2 → X'.heap[k]? = X.heap[k]? := fun k h1 h2 => hm.block k (by omega) fun hg => by
    rcases hG k hg with h3 | h3
    · have := h.fl k (.inl h3); omega
    · omega
  refine ⟨hs, fun j u hj => (World.cell?_of_block (a := ⟨w.heap.size, j, none⟩) (hk w.heap.size (by omega) (by omega))).trans (h.cb j u hj), fun o ho' => ?_, fun o => (World.frozen?_of_block (a := ⟨w.heap.size + 1, o, none⟩) (hk (w.heap.size + 1) (by omega) (by omega))).trans (h.rf o), h.mv.trans hm fun i hi => ?_, Nat.le_trans hsz hm.size, h.fl, ho⟩
  · obtain ⟨u, hu⟩ := h.r o ho'
    exact ⟨u, (World.cell?_of_block (a := ⟨w.heap.size + 1, o, none⟩) (hk (w.heap.size + 1) (by omega) (by omega))).trans hu⟩
  · rcases hG i hi with h3 | h3
    · exact .inl h3
    · exact .inr (by omega)
theorem MB.below (h : MB w X b tb kb mb wv0 wv n s c) (hb : Below X.heap.size X X') : MB w X' b tb kb mb wv0 wv n s c := h.next (G := fun _ => False) (h.svc.below hb) (Moves.of_below hb) (fun _ h => h.elim) h.ow
theorem MB.made (h : IsSvc w b tb kb mb wv n s) (c : Cm) : MB w ((w.alloc (.cells c.cells.toArray 36)).alloc (.cells #[.int .i64 0, .int .i64 0, .slice none 0 0, .slice none 0 0, .slice none 0 0] 111)) b tb kb mb wv wv n s c := by
  have hb : Below w.heap.size w ((w.alloc (.cells c.cells.toArray 36)).alloc (.cells #[.int .i64 0, .int .i64 0, .slice none 0 0, .slice none 0 0, .slice none 0 0] 111)) := ((Below.refl _ _).alloc (Nat.le_refl _) _).alloc (by simp) _
  have h1 : Below (w.alloc (.cells c.cells.toArray 36)).heap.size (w.alloc (.cells c.cells.toArray 36)) ((w.alloc (.cells c.cells.toArray 36)).alloc (.cells #[.int .i64 0, .int .i64 0, .slice none 0 0, .slice none 0 0, .slice none 0 0] 111)) := (Below.refl _ _).alloc (Nat.le_refl _) _
  have h2 := fun j => World.cell?_alloc_new (w.alloc (.cells c.cells.toArray 36)) #[.int .i64 0, .int .i64 0, .slice none 0 0, .slice none 0 0, .slice none 0 0] 111 j
  have h3 := fun j => World.frozen?_alloc_new (w.alloc (.cells c.cells.toArray 36)) #[.int .i64 0, .int .i64 0, .slice none 0 0, .slice none 0 0, .slice none 0 0] 111 j
  rw [World.size_alloc] at h2 h3
  refine ⟨h.below hb, fun j u hj => (made_cell h1 j).trans (by rw [List.getElem?_toArray]; exact hj), fun o ho => ?_, h3, Moves.of_below hb, by simp, fun k hf => by rcases hf with hf | rfl; exact h.lt k hf; exact h.whole.lt, fun k hk => .inl hk⟩
  rw [h2]
  rcases (by omega : o = 0 ∨ o = 1 ∨ o = 2 ∨ o = 3 ∨ o = 4) with rfl | rfl | rfl | rfl | rfl <;> exact ⟨_, rfl⟩
/-- The answer is told: the end. -/
theorem MB.fin (h : MB w X b tb kb mb wv0 wv n s c) {n0 : Nat} (hn : n ≤ n0 + 1) {e : Ending} (v0 v1 v2 v3 v4 : Value) (he : e = .returned (.agg #[v0, v1, v2, v3, v4])) (hA : AnsV (.agg #[v0, v1, v2, v3, v4])) :
    MPost w b tb kb mb wv0 n0 s e (((((X.setCell ⟨w.heap.size + 1, 0, none⟩ v0).setCell ⟨w.heap.size + 1, 1, none⟩ v1).setCell ⟨w.heap.size + 1, 2, none⟩ v2).setCell ⟨w.heap.size + 1, 3, none⟩ v3).setCell ⟨w.heap.size + 1, 4, none⟩ v4) := by
  have hm := set5_moves X (w.heap.size + 1) v0 v1 v2 v3 v4
  have hsf := h.svc.moves hm fun k hk => by
    subst hk
    refine ⟨fun hf => ?_, fun e => ?_⟩
    · rcases hf with hf | hf | hf | hf | hf
      · have := h.fl b (.inl (.inl rfl)); omega
      · have := h.fl tb (.inl (.inr (.inl rfl))); omega
      · have := h.fl kb (.inl (.inr (.inr (.inl rfl)))); omega
      · have := h.fl mb (.inl (.inr (.inr (.inr (.inl rfl))))); omega
      · rcases h.ow _ hf with h3 | h3
        · have := h.fl _ (.inl (.inr (.inr (.inr (.inr h3))))); omega
        · omega
    · have := h.fl _ (.inr rfl); omega
  exact ⟨⟨_, he, hA⟩, wv, n, hn, hsf, h.mv.trans hm fun k hk => .inr (by omega), fun k hk => by rcases h.ow k hk with h3 | h3; exact .inl h3; exact .inr (by omega)⟩
theorem MB.drew (h : MB w X b tb kb mb wv0 wv n s c) : MB w X.drew b tb kb mb wv0 wv n s c := ⟨h.svc.keep fun _ _ => rfl, h.cb, h.r, h.rf, h.mv.drew, h.sz, h.fl, h.ow⟩
theorem ansv (e n : Int) (a1 a2 a3 : Option Addr) (n1 n2 n3 c1 c2 c3 : Nat) : AnsV (.agg #[.int .i64 e, .int .i64 n, .slice a1 n1 c1, .slice a2 n2 c2, .slice a3 n3 c3]) := ⟨e, n, a1, a2, a3, n1, n2, n3, c1, c2, c3, rfl⟩
set_option maxRecDepth 100000 in
set_option maxHeartbeats 4000000 in
theorem release_any (h : IsSvc w b tb kb mb wv n s) (hs : s.Ok) (c : Cm) : Calls Tryd.prog 112 #[.pointer (some ⟨b, 0, none⟩), c.val] w (MPost w b tb kb mb wv n (s.release c)) := by
  have hM := MB.made h c
  have x1 := hM.cb 1 _ rfl
  have x5 := hM.cb 5 _ rfl
  have x6 := hM.cb 6 _ rfl
  have HM := Lib.hid hM
  have hmix : Tryd.prog.follows .mixedOrders = true := by kernel_rfl
  clear hM h
  unfold Cm.cells at HM x1 x5 x6
  unfold Cm.val
  have hcl := fun W => gclient_any (w := W) c.client
  by_cases hc : c.client < 8
  · have hrel : s.release c = GS.serve ⟨setR s.R c.client c.a c.b (fun _ => 0), s.B, s.wait, s.last, s.by'⟩ := by unfold GS.release; rw [if_pos hc]
    rw [hrel]
    rw [decide_eq_true hc] at hcl
    clear hrel
    go_enter Tryd.func112, Tryd.ntmps112
    go_wp2_with (go_at_call 119; refine (hcl _).mono ?_; clear hcl; rintro e w1 ⟨rfl, hw⟩; rw [hw] at HM x1 x5 x6; clear hw
                 have c0 := HM.out.svc.c0)
    refine wp_region_still_tail 9 (by kernel_rfl) (by kernel_rfl) ?_
    simp only [List.take_succ_cons, List.take_zero, List.drop_succ_cons, List.drop_zero]
    iterate 9 still_step
    refine wpStill_nil ?_
    have hcut := cut_any HM.out.drew.svc.tab hs.R c.client c.a c.b hc
    unfold rng at hcut
    go_wp2_with (go_at_call 125; refine hcut.mono ?_; clear hcut; rintro e w2 ⟨⟨_, rfl⟩, hT, hMv⟩
                 have HM2 := Lib.hid (HM.out.drew.next (HM.out.drew.svc.tabs hT hMv) hMv (fun k hk => .inl (.inr (.inl hk))) HM.out.ow)
                 clear hT hMv HM x1 x5 x6 c0)
    have hsv := serve_any HM2.out.svc (hs.with (small_set hs.R c.client c.a c.b (fun _ => 0) (by intro m hm; first | omega | (show min m 1 ≤ 2; omega))) s.B hs.y) none 0 0
    unfold ans at hsv
    go_wp2_with (go_at_call 126; refine hsv.mono ?_; clear hsv
                 rintro e w3 ⟨⟨v, rfl, ve, vn, a1, a2, a3, n1, n2, n3, q1, q2, q3, rfl⟩, wv', hS3, hM3, ho3⟩
                 have HM3 := Lib.hid (HM2.out.next hS3 hM3 (fun k hk => by rcases hk with hk | hk; exact .inl (.inr (.inl hk)); exact .inl (.inl hk)) (fun k hk => .inr (Nat.le_trans HM2.out.sz (ho3 k hk))))
                 clear hS3 hM3 ho3 HM2
                 unfold ans
                 obtain ⟨u0, r0⟩ := HM3.out.r 0 (by omega)
                 obtain ⟨u1, r1⟩ := HM3.out.r 1 (by omega)
                 obtain ⟨u2, r2⟩ := HM3.out.r 2 (by omega)
                 obtain ⟨u3, r3⟩ := HM3.out.r 3 (by omega)
                 obtain ⟨u4, r4⟩ := HM3.out.r 4 (by omega)
                 have p0 := HM3.out.rf 0
                 have p1 := HM3.out.rf 1
                 have p2 := HM3.out.rf 2
                 have p3 := HM3.out.rf 3
                 have p4 := HM3.out.rf 4)
    obtain ⟨z0, z1, z2, z3, z4⟩ := set5_cells (B := w.heap.size + 1) (.int .i64 ve) (.int .i64 vn) (.slice a1 n1 q1) (.slice a2 n2 q2) (.slice a3 n3 q3) HM3.out.r
    refine bodyPost_ret (v := .agg #[.int .i64 ve, .int .i64 vn, .slice a1 n1 q1, .slice a2 n2 q2, .slice a3 n3 q3]) (by simp [results, Tryd.results112, go_sem, z0, z1, z2, z3, z4]) rfl ?_
    exact HM3.out.fin (by omega) _ _ _ _ _ rfl (ansv _ _ _ _ _ _ _ _ _ _ _)
  · have hrel : s.release c = s := by unfold GS.release; rw [if_neg hc]
    rw [hrel]
    rw [decide_eq_false hc] at hcl
    clear hrel
    go_enter Tryd.func112, Tryd.ntmps112
    go_wp2_with (go_at_call 119; refine (hcl _).mono ?_; clear hcl; rintro e w1 ⟨rfl, hw⟩; rw [hw] at HM; clear hw
                 obtain ⟨u0, r0⟩ := HM.out.r 0 (by omega)
                 obtain ⟨u1, r1⟩ := HM.out.r 1 (by omega)
                 obtain ⟨u2, r2⟩ := HM.out.r 2 (by omega)
                 obtain ⟨u3, r3⟩ := HM.out.r 3 (by omega)
                 obtain ⟨u4, r4⟩ := HM.out.r 4 (by omega)
                 have p0 := HM.out.rf 0
                 have p1 := HM.out.rf 1
                 have p2 := HM.out.rf 2
                 have p3 := HM.out.rf 3
                 have p4 := HM.out.rf 4)
    obtain ⟨z0, z1, z2, z3, z4⟩ := set5_cells (B := w.heap.size + 1) (.int .i64 1) (.int .i64 0) (.slice none 0 0) (.slice none 0 0) (.slice none 0 0) HM.out.r
    refine bodyPost_ret (v := .agg #[.int .i64 1, .int .i64 0, .slice none 0 0, .slice none 0 0, .slice none 0 0]) (by simp [results, Tryd.results112, go_sem, z0, z1, z2, z3, z4]) rfl ?_
    exact HM.out.fin (by omega) _ _ _ _ _ rfl (ansv _ _ _ _ _ _ _ _ _ _ _)
set_option maxRecDepth 100000 in
set_option maxHeartbeats 4000000 in
theorem wkn_any (h : IsSvc w b tb kb mb wv n s) (hs : s.Ok) (c : Cm) : Calls Tryd.prog 113 #[.pointer (some ⟨b, 0, none⟩), c.val] w (MPost w b tb kb mb wv n (s.weaken c)) := by
  have hM := MB.made h c
  have x1 := hM.cb 1 _ rfl
  have x5 := hM.cb 5 _ rfl
  have x6 := hM.cb 6 _ rfl
  have HM := Lib.hid hM
  have hmix : Tryd.prog.follows .mixedOrders = true := by kernel_rfl
  clear hM h
  unfold Cm.cells at HM x1 x5 x6
  unfold Cm.val
  have hcl := fun W => gclient_any (w := W) c.client
  by_cases hc : c.client < 8
  · have hrel : s.weaken c = GS.serve ⟨setR s.R c.client c.a c.b (fun m => min m 1), s.B, s.wait, s.last, s.by'⟩ := by unfold GS.weaken; rw [if_pos hc]
    rw [hrel]
    rw [decide_eq_true hc] at hcl
    clear hrel
    go_enter Tryd.func113, Tryd.ntmps113
    go_wp2_with (go_at_call 119; refine (hcl _).mono ?_; clear hcl; rintro e w1 ⟨rfl, hw⟩; rw [hw] at HM x1 x5 x6; clear hw
                 have c0 := HM.out.svc.c0)
    refine wp_region_still_tail 9 (by kernel_rfl) (by kernel_rfl) ?_
    simp only [List.take_succ_cons, List.take_zero, List.drop_succ_cons, List.drop_zero]
    iterate 9 still_step
    refine wpStill_nil ?_
    have hcut := weaken_any HM.out.drew.svc.tab hs.R c.client c.a c.b hc
    unfold rng at hcut
    go_wp2_with (go_at_call 127; refine hcut.mono ?_; clear hcut; rintro e w2 ⟨⟨_, rfl⟩, hT, hMv⟩
                 have HM2 := Lib.hid (HM.out.drew.next (HM.out.drew.svc.tabs hT hMv) hMv (fun k hk => .inl (.inr (.inl hk))) HM.out.ow)
                 clear hT hMv HM x1 x5 x6 c0)
    have hsv := serve_any HM2.out.svc (hs.with (small_set hs.R c.client c.a c.b (fun m => min m 1) (by intro m hm; first | omega | (show min m 1 ≤ 2; omega))) s.B hs.y) none 0 0
    unfold ans at hsv
    go_wp2_with (go_at_call 126; refine hsv.mono ?_; clear hsv
                 rintro e w3 ⟨⟨v, rfl, ve, vn, a1, a2, a3, n1, n2, n3, q1, q2, q3, rfl⟩, wv', hS3, hM3, ho3⟩
                 have HM3 := Lib.hid (HM2.out.next hS3 hM3 (fun k hk => by rcases hk with hk | hk; exact .inl (.inr (.inl hk)); exact .inl (.inl hk)) (fun k hk => .inr (Nat.le_trans HM2.out.sz (ho3 k hk))))
                 clear hS3 hM3 ho3 HM2
                 unfold ans
                 obtain ⟨u0, r0⟩ := HM3.out.r 0 (by omega)
                 obtain ⟨u1, r1⟩ := HM3.out.r 1 (by omega)
                 obtain ⟨u2, r2⟩ := HM3.out.r 2 (by omega)
                 obtain ⟨u3, r3⟩ := HM3.out.r 3 (by omega)
                 obtain ⟨u4, r4⟩ := HM3.out.r 4 (by omega)
                 have p0 := HM3.out.rf 0
                 have p1 := HM3.out.rf 1
                 have p2 := HM3.out.rf 2
                 have p3 := HM3.out.rf 3
                 have p4 := HM3.out.rf 4)
    obtain ⟨z0, z1, z2, z3, z4⟩ := set5_cells (B := w.heap.size + 1) (.int .i64 ve) (.int .i64 vn) (.slice a1 n1 q1) (.slice a2 n2 q2) (.slice a3 n3 q3) HM3.out.r
    refine bodyPost_ret (v := .agg #[.int .i64 ve, .int .i64 vn, .slice a1 n1 q1, .slice a2 n2 q2, .slice a3 n3 q3]) (by simp [results, Tryd.results113, go_sem, z0, z1, z2, z3, z4]) rfl ?_
    exact HM3.out.fin (by omega) _ _ _ _ _ rfl (ansv _ _ _ _ _ _ _ _ _ _ _)
  · have hrel : s.weaken c = s := by unfold GS.weaken; rw [if_neg hc]
    rw [hrel]
    rw [decide_eq_false hc] at hcl
    clear hrel
    go_enter Tryd.func113, Tryd.ntmps113
    go_wp2_with (go_at_call 119; refine (hcl _).mono ?_; clear hcl; rintro e w1 ⟨rfl, hw⟩; rw [hw] at HM; clear hw
                 obtain ⟨u0, r0⟩ := HM.out.r 0 (by omega)
                 obtain ⟨u1, r1⟩ := HM.out.r 1 (by omega)
                 obtain ⟨u2, r2⟩ := HM.out.r 2 (by omega)
                 obtain ⟨u3, r3⟩ := HM.out.r 3 (by omega)
                 obtain ⟨u4, r4⟩ := HM.out.r 4 (by omega)
                 have p0 := HM.out.rf 0
                 have p1 := HM.out.rf 1
                 have p2 := HM.out.rf 2
                 have p3 := HM.out.rf 3
                 have p4 := HM.out.rf 4)
    obtain ⟨z0, z1, z2, z3, z4⟩ := set5_cells (B := w.heap.size + 1) (.int .i64 1) (.int .i64 0) (.slice none 0 0) (.slice none 0 0) (.slice none 0 0) HM.out.r
    refine bodyPost_ret (v := .agg #[.int .i64 1, .int .i64 0, .slice none 0 0, .slice none 0 0, .slice none 0 0]) (by simp [results, Tryd.results113, go_sem, z0, z1, z2, z3, z4]) rfl ?_
    exact HM.out.fin (by omega) _ _ _ _ _ rfl (ansv _ _ _ _ _ _ _ _ _ _ _)
end
end Go.Proofs.YtfjfkmoofmncnaaDoor
