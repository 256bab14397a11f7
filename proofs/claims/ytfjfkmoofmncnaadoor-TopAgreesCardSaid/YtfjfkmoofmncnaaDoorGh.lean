/- The service: Do over the table of kinds; New, Holds, Waits. -/
import Derived.Test.YtfjfkmoofmncnaaDoorGg
import Derived.Test.YtfjfkmoofmncnaaDoorGf
namespace Go.Proofs.YtfjfkmoofmncnaaDoor
open Go.RowKit
/-- The table of kinds, as the door lays it. -/
structure Kinds (w : World) : Prop where
  k1 : w.cell? ⟨0, 1, none⟩ = some (.func (.func 111) #[] #[])
  k2 : w.cell? ⟨0, 2, none⟩ = some (.func (.func 112) #[] #[])
  k3 : w.cell? ⟨0, 3, none⟩ = some (.func (.func 113) #[] #[])
  k4 : w.cell? ⟨0, 4, none⟩ = some (.func (.func 114) #[] #[])
  k5 : w.cell? ⟨0, 5, none⟩ = some (.func (.func 115) #[] #[])
  k6 : w.cell? ⟨0, 6, none⟩ = some (.func (.func 116) #[] #[])
  k7 : w.cell? ⟨0, 7, none⟩ = some (.func (.func 117) #[] #[])
  k8 : w.cell? ⟨0, 8, none⟩ = some (.func (.func 118) #[] #[])
theorem Kinds.keep {w w' : World} (h : Kinds w) (hk : w'.heap[0]? = w.heap[0]?) : Kinds w' := by
  have hc : ∀ o v, w.cell? ⟨0, o, none⟩ = some v → w'.cell? ⟨0, o, none⟩ = some v := fun o v h => (World.cell?_of_block (a := ⟨0, o, none⟩) hk).trans h
  exact ⟨hc _ _ h.k1, hc _ _ h.k2, hc _ _ h.k3, hc _ _ h.k4, hc _ _ h.k5, hc _ _ h.k6, hc _ _ h.k7, hc _ _ h.k8⟩
theorem Kinds.lt {w : World} (h : Kinds w) : 0 < w.heap.size := World.block_lt_of_cell? w _ h.k1
theorem Kinds.moves {w w' : World} {F : Nat → Prop} (h : Kinds w) (hm : Moves F w w') (hF : ∀ k, F k → 2 ≤ k) : Kinds w' := h.keep (hm.block _ h.lt fun hf => absurd (hF _ hf) (by decide))
section
variable {w w' X X' : World} {b tb kb mb n n' : Nat} {wv0 wv wv' : Value} {s s' : GS} {c : Cm}
set_option maxRecDepth 100000 in
set_option maxHeartbeats 4000000 in
theorem do_bad (h : IsSvc w b tb kb mb wv n s) (c : Cm) (hk0 : c.kind < 1 ∨ 9 ≤ c.kind) : Calls Tryd.prog 37 #[.pointer (some ⟨b, 0, none⟩), c.val] w (MPost w b tb kb mb wv n (s)) := by
  have hkk : decide ((c.kind : Int) < 1) = true ∨ (decide ((c.kind : Int) < 1) = false ∧ decide ((9 : Int) ≤ (c.kind : Int)) = true) := by
    by_cases e : c.kind < 1
    · left; simp; omega
    · right; refine ⟨by simp; omega, by simp; omega⟩
  have HI := Lib.hid h
  clear h hk0
  unfold Cm.val
  rcases hkk with e1 | ⟨e1, e2⟩
  all_goals
    go_enter Tryd.func37, Tryd.ntmps37
    go_wp2_with fail
    generalize hWW : ((w.alloc _).alloc _) = W
    have hz : ∀ j, W.cell? ⟨w.heap.size + 1, j, none⟩ = #[Value.int .i64 1, .int .i64 0, .slice none 0 0, .slice none 0 0, .slice none 0 0][j]? := fun j => by
      rw [← hWW]
      have := World.cell?_alloc_new (w.alloc (.cells #[.int .i64 (c.kind : Int), .int .i64 (c.client : Int), .int .i64 (c.seq : Int), .int .i64 (c.now : Int), .int .i64 (c.len : Int), .int .i64 (c.a : Int), .int .i64 (c.b : Int), .int .i64 (c.mode : Int), .int .i64 (c.other : Int)] 36)) #[Value.int .i64 1, .int .i64 0, .slice none 0 0, .slice none 0 0, .slice none 0 0] 111 j
      rwa [World.size_alloc] at this
    have hb : Below w.heap.size w W := by rw [← hWW]; exact ((Below.refl _ _).alloc (Nat.le_refl _) _).alloc (by simp) _
    have z0 := hz 0
    have z1 := hz 1
    have z2 := hz 2
    have z3 := hz 3
    have z4 := hz 4
    simp only [List.getElem?_toArray, List.getElem?_cons_succ, List.getElem?_cons_zero] at z0 z1 z2 z3 z4
    clear hz hWW
    refine bodyPost_ret (v := .agg #[.int .i64 1, .int .i64 0, .slice none 0 0, .slice none 0 0, .slice none 0 0]) (by simp [results, Tryd.results37, go_sem, z0, z1, z2, z3, z4]) rfl ?_
    exact ⟨⟨_, rfl, ansv _ _ _ _ _ _ _ _ _ _ _⟩, wv, n, Nat.le_succ n, HI.out.below hb, Moves.of_below hb, fun k hk => .inl hk⟩
set_option maxRecDepth 100000 in
set_option maxHeartbeats 4000000 in
theorem do_ask (h : IsSvc w b tb kb mb wv n s) (hs : s.Ok) (hk : Kinds w) (c : Cm) (hk0 : c.kind = 1) : Calls Tryd.prog 37 #[.pointer (some ⟨b, 0, none⟩), c.val] w (MPost w b tb kb mb wv n (s.ask c)) := by
  have hM := MB.made h c
  have hg2 := h.g
  have hkX := hM.mv.block _ hk.lt (fun hf => absurd (hg2 _ hf) (by decide))
  have kc := (hk.keep hkX).k1
  obtain ⟨X, hX⟩ : ∃ X, X = ((w.alloc (.cells c.cells.toArray 36)).alloc (.cells #[.int .i64 0, .int .i64 0, .slice none 0 0, .slice none 0 0, .slice none 0 0] 111)) := ⟨_, rfl⟩
  rw [← hX] at hM kc
  have x0 := hM.cb 0 _ rfl
  have x1 := hM.cb 1 _ rfl
  have x2 := hM.cb 2 _ rfl
  have x3 := hM.cb 3 _ rfl
  have x4 := hM.cb 4 _ rfl
  have x5 := hM.cb 5 _ rfl
  have x6 := hM.cb 6 _ rfl
  have x7 := hM.cb 7 _ rfl
  have x8 := hM.cb 8 _ rfl
  have HMd := Lib.hid hM.drew
  have hdo : Calls Tryd.prog 111 #[.pointer (some ⟨b, 0, none⟩), .agg #[.int .i64 1, .int .i64 (c.client : Int), .int .i64 (c.seq : Int), .int .i64 (c.now : Int), .int .i64 (c.len : Int), .int .i64 (c.a : Int), .int .i64 (c.b : Int), .int .i64 (c.mode : Int), .int .i64 (c.other : Int)]] X.drew (MPost X.drew b tb kb mb wv n (s.ask c)) := by
    have := gask_any HMd.out.svc hs c
    unfold Cm.val at this
    rw [hk0] at this
    exact this
  unfold Cm.cells at hX
  have HX := Lib.hid hX
  have e1 : decide ((c.kind : Int) < 1) = false := by simp; omega
  have e2 : decide ((9 : Int) ≤ (c.kind : Int)) = false := by simp; omega
  unfold Cm.val
  have HK0 := Lib.hid hk0
  clear hM h hX hk hkX hg2 hk0
  go_enter Tryd.func37, Tryd.ntmps37
  go_wp2_with fail
  rw [← HX.out]
  rw [show (c.kind : Int) = 1 by rw [HK0.out]; rfl] at x0
  refine wp_region_still_tail 6 (by kernel_rfl) (by kernel_rfl) ?_
  simp only [List.take_succ_cons, List.take_zero, List.drop_succ_cons, List.drop_zero]
  iterate 6 still_step
  refine wpStill_nil ?_
  go_wp2_with (go_at_call 111; refine hdo.mono ?_; clear hdo
               rintro e w2 ⟨⟨v, rfl, ve, vn, a1, a2, a3, n1, n2, n3, q1, q2, q3, rfl⟩, wv', n', hn', hS2, hM2, ho2⟩
               have HM2 := Lib.hid (HMd.out.next hS2 hM2 (fun k hk => .inl hk) (fun k hk => by rcases ho2 k hk with h1 | h1; exact .inl h1; exact .inr (Nat.le_trans HMd.out.sz h1)))
               clear hS2 hM2 ho2 HMd
               unfold ans
               obtain ⟨u0, r0⟩ := HM2.out.r 0 (by omega)
               obtain ⟨u1, r1⟩ := HM2.out.r 1 (by omega)
               obtain ⟨u2, r2⟩ := HM2.out.r 2 (by omega)
               obtain ⟨u3, r3⟩ := HM2.out.r 3 (by omega)
               obtain ⟨u4, r4⟩ := HM2.out.r 4 (by omega)
               have p0 := HM2.out.rf 0
               have p1 := HM2.out.rf 1
               have p2 := HM2.out.rf 2
               have p3 := HM2.out.rf 3
               have p4 := HM2.out.rf 4)
  obtain ⟨z0, z1, z2, z3, z4⟩ := set5_cells (B := w.heap.size + 1) (.int .i64 ve) (.int .i64 vn) (.slice a1 n1 q1) (.slice a2 n2 q2) (.slice a3 n3 q3) HM2.out.r
  refine bodyPost_ret (v := .agg #[.int .i64 ve, .int .i64 vn, .slice a1 n1 q1, .slice a2 n2 q2, .slice a3 n3 q3]) (by simp [results, Tryd.results37, go_sem, z0, z1, z2, z3, z4]) rfl ?_
  exact HM2.out.fin hn' _ _ _ _ _ rfl (ansv _ _ _ _ _ _ _ _ _ _ _)
set_option maxRecDepth 100000 in
set_option maxHeartbeats 4000000 in
theorem do_release (h : IsSvc w b tb kb mb wv n s) (hs : s.Ok) (hk : Kinds w) (c : Cm) (hk0 : c.kind = 2) : Calls Tryd.prog 37 #[.pointer (some ⟨b, 0, none⟩), c.val] w (MPost w b tb kb mb wv n (s.release c)) := by
  have hM := MB.made h c
  have hg2 := h.g
  have hkX := hM.mv.block _ hk.lt (fun hf => absurd (hg2 _ hf) (by decide))
  have kc := (hk.keep hkX).k2
  obtain ⟨X, hX⟩ : ∃ X, X = ((w.alloc (.cells c.cells.toArray 36)).alloc (.cells #[.int .i64 0, .int .i64 0, .slice none 0 0, .slice none 0 0, .slice none 0 0] 111)) := ⟨_, rfl⟩
  rw [← hX] at hM kc
  have x0 := hM.cb 0 _ rfl
  have x1 := hM.cb 1 _ rfl
  have x2 := hM.cb 2 _ rfl
  have x3 := hM.cb 3 _ rfl
  have x4 := hM.cb 4 _ rfl
  have x5 := hM.cb 5 _ rfl
  have x6 := hM.cb 6 _ rfl
  have x7 := hM.cb 7 _ rfl
  have x8 := hM.cb 8 _ rfl
  have HMd := Lib.hid hM.drew
  have hdo : Calls Tryd.prog 112 #[.pointer (some ⟨b, 0, none⟩), .agg #[.int .i64 2, .int .i64 (c.client : Int), .int .i64 (c.seq : Int), .int .i64 (c.now : Int), .int .i64 (c.len : Int), .int .i64 (c.a : Int), .int .i64 (c.b : Int), .int .i64 (c.mode : Int), .int .i64 (c.other : Int)]] X.drew (MPost X.drew b tb kb mb wv n (s.release c)) := by
    have := release_any HMd.out.svc hs c
    unfold Cm.val at this
    rw [hk0] at this
    exact this
  unfold Cm.cells at hX
  have HX := Lib.hid hX
  have e1 : decide ((c.kind : Int) < 1) = false := by simp; omega
  have e2 : decide ((9 : Int) ≤ (c.kind : Int)) = false := by simp; omega
  unfold Cm.val
  have HK0 := Lib.hid hk0
  clear hM h hX hk hkX hg2 hk0
  go_enter Tryd.func37, Tryd.ntmps37
  go_wp2_with fail
  rw [← HX.out]
  rw [show (c.kind : Int) = 2 by rw [HK0.out]; rfl] at x0
  refine wp_region_still_tail 6 (by kernel_rfl) (by kernel_rfl) ?_
  simp only [List.take_succ_cons, List.take_zero, List.drop_succ_cons, List.drop_zero]
  iterate 6 still_step
  refine wpStill_nil ?_
  go_wp2_with (go_at_call 112; refine hdo.mono ?_; clear hdo
               rintro e w2 ⟨⟨v, rfl, ve, vn, a1, a2, a3, n1, n2, n3, q1, q2, q3, rfl⟩, wv', n', hn', hS2, hM2, ho2⟩
               have HM2 := Lib.hid (HMd.out.next hS2 hM2 (fun k hk => .inl hk) (fun k hk => by rcases ho2 k hk with h1 | h1; exact .inl h1; exact .inr (Nat.le_trans HMd.out.sz h1)))
               clear hS2 hM2 ho2 HMd
               unfold ans
               obtain ⟨u0, r0⟩ := HM2.out.r 0 (by omega)
               obtain ⟨u1, r1⟩ := HM2.out.r 1 (by omega)
               obtain ⟨u2, r2⟩ := HM2.out.r 2 (by omega)
               obtain ⟨u3, r3⟩ := HM2.out.r 3 (by omega)
               obtain ⟨u4, r4⟩ := HM2.out.r 4 (by omega)
               have p0 := HM2.out.rf 0
               have p1 := HM2.out.rf 1
               have p2 := HM2.out.rf 2
               have p3 := HM2.out.rf 3
               have p4 := HM2.out.rf 4)
  obtain ⟨z0, z1, z2, z3, z4⟩ := set5_cells (B := w.heap.size + 1) (.int .i64 ve) (.int .i64 vn) (.slice a1 n1 q1) (.slice a2 n2 q2) (.slice a3 n3 q3) HM2.out.r
  refine bodyPost_ret (v := .agg #[.int .i64 ve, .int .i64 vn, .slice a1 n1 q1, .slice a2 n2 q2, .slice a3 n3 q3]) (by simp [results, Tryd.results37, go_sem, z0, z1, z2, z3, z4]) rfl ?_
  exact HM2.out.fin hn' _ _ _ _ _ rfl (ansv _ _ _ _ _ _ _ _ _ _ _)
set_option maxRecDepth 100000 in
set_option maxHeartbeats 4000000 in
theorem do_weaken (h : IsSvc w b tb kb mb wv n s) (hs : s.Ok) (hk : Kinds w) (c : Cm) (hk0 : c.kind = 3) : Calls Tryd.prog 37 #[.pointer (some ⟨b, 0, none⟩), c.val] w (MPost w b tb kb mb wv n (s.weaken c)) := by
  have hM := MB.made h c
  have hg2 := h.g
  have hkX := hM.mv.block _ hk.lt (fun hf => absurd (hg2 _ hf) (by decide))
  have kc := (hk.keep hkX).k3
  obtain ⟨X, hX⟩ : ∃ X, X = ((w.alloc (.cells c.cells.toArray 36)).alloc (.cells #[.int .i64 0, .int .i64 0, .slice none 0 0, .slice none 0 0, .slice none 0 0] 111)) := ⟨_, rfl⟩
  rw [← hX] at hM kc
  have x0 := hM.cb 0 _ rfl
  have x1 := hM.cb 1 _ rfl
  have x2 := hM.cb 2 _ rfl
  have x3 := hM.cb 3 _ rfl
  have x4 := hM.cb 4 _ rfl
  have x5 := hM.cb 5 _ rfl
  have x6 := hM.cb 6 _ rfl
  have x7 := hM.cb 7 _ rfl
  have x8 := hM.cb 8 _ rfl
  have HMd := Lib.hid hM.drew
  have hdo : Calls Tryd.prog 113 #[.pointer (some ⟨b, 0, none⟩), .agg #[.int .i64 3, .int .i64 (c.client : Int), .int .i64 (c.seq : Int), .int .i64 (c.now : Int), .int .i64 (c.len : Int), .int .i64 (c.a : Int), .int .i64 (c.b : Int), .int .i64 (c.mode : Int), .int .i64 (c.other : Int)]] X.drew (MPost X.drew b tb kb mb wv n (s.weaken c)) := by
    have := wkn_any HMd.out.svc hs c
    unfold Cm.val at this
    rw [hk0] at this
    exact this
  unfold Cm.cells at hX
  have HX := Lib.hid hX
  have e1 : decide ((c.kind : Int) < 1) = false := by simp; omega
  have e2 : decide ((9 : Int) ≤ (c.kind : Int)) = false := by simp; omega
  unfold Cm.val
  have HK0 := Lib.hid hk0
  clear hM h hX hk hkX hg2 hk0
  go_enter Tryd.func37, Tryd.ntmps37
  go_wp2_with fail
  rw [← HX.out]
  rw [show (c.kind : Int) = 3 by rw [HK0.out]; rfl] at x0
  refine wp_region_still_tail 6 (by kernel_rfl) (by kernel_rfl) ?_
  simp only [List.take_succ_cons, List.take_zero, List.drop_succ_cons, List.drop_zero]
  iterate 6 still_step
  refine wpStill_nil ?_
  go_wp2_with (go_at_call 113; refine hdo.mono ?_; clear hdo
               rintro e w2 ⟨⟨v, rfl, ve, vn, a1, a2, a3, n1, n2, n3, q1, q2, q3, rfl⟩, wv', n', hn', hS2, hM2, ho2⟩
               have HM2 := Lib.hid (HMd.out.next hS2 hM2 (fun k hk => .inl hk) (fun k hk => by rcases ho2 k hk with h1 | h1; exact .inl h1; exact .inr (Nat.le_trans HMd.out.sz h1)))
               clear hS2 hM2 ho2 HMd
               unfold ans
               obtain ⟨u0, r0⟩ := HM2.out.r 0 (by omega)
               obtain ⟨u1, r1⟩ := HM2.out.r 1 (by omega)
               obtain ⟨u2, r2⟩ := HM2.out.r 2 (by omega)
               obtain ⟨u3, r3⟩ := HM2.out.r 3 (by omega)
               obtain ⟨u4, r4⟩ := HM2.out.r 4 (by omega)
               have p0 := HM2.out.rf 0
               have p1 := HM2.out.rf 1
               have p2 := HM2.out.rf 2
               have p3 := HM2.out.rf 3
               have p4 := HM2.out.rf 4)
  obtain ⟨z0, z1, z2, z3, z4⟩ := set5_cells (B := w.heap.size + 1) (.int .i64 ve) (.int .i64 vn) (.slice a1 n1 q1) (.slice a2 n2 q2) (.slice a3 n3 q3) HM2.out.r
  refine bodyPost_ret (v := .agg #[.int .i64 ve, .int .i64 vn, .slice a1 n1 q1, .slice a2 n2 q2, .slice a3 n3 q3]) (by simp [results, Tryd.results37, go_sem, z0, z1, z2, z3, z4]) rfl ?_
  exact HM2.out.fin hn' _ _ _ _ _ rfl (ansv _ _ _ _ _ _ _ _ _ _ _)
set_option maxRecDepth 100000 in
set_option maxHeartbeats 4000000 in
theorem do_renew (h : IsSvc w b tb kb mb wv n s) (hk : Kinds w) (c : Cm) (hk0 : c.kind = 4) : Calls Tryd.prog 37 #[.pointer (some ⟨b, 0, none⟩), c.val] w (MPost w b tb kb mb wv n (s.renew c)) := by
  have hM := MB.made h c
  have hg2 := h.g
  have hkX := hM.mv.block _ hk.lt (fun hf => absurd (hg2 _ hf) (by decide))
  have kc := (hk.keep hkX).k4
  obtain ⟨X, hX⟩ : ∃ X, X = ((w.alloc (.cells c.cells.toArray 36)).alloc (.cells #[.int .i64 0, .int .i64 0, .slice none 0 0, .slice none 0 0, .slice none 0 0] 111)) := ⟨_, rfl⟩
  rw [← hX] at hM kc
  have x0 := hM.cb 0 _ rfl
  have x1 := hM.cb 1 _ rfl
  have x2 := hM.cb 2 _ rfl
  have x3 := hM.cb 3 _ rfl
  have x4 := hM.cb 4 _ rfl
  have x5 := hM.cb 5 _ rfl
  have x6 := hM.cb 6 _ rfl
  have x7 := hM.cb 7 _ rfl
  have x8 := hM.cb 8 _ rfl
  have HMd := Lib.hid hM.drew
  have hdo : Calls Tryd.prog 114 #[.pointer (some ⟨b, 0, none⟩), .agg #[.int .i64 4, .int .i64 (c.client : Int), .int .i64 (c.seq : Int), .int .i64 (c.now : Int), .int .i64 (c.len : Int), .int .i64 (c.a : Int), .int .i64 (c.b : Int), .int .i64 (c.mode : Int), .int .i64 (c.other : Int)]] X.drew (MPost X.drew b tb kb mb wv n (s.renew c)) := by
    have := grenew_any HMd.out.svc c
    unfold Cm.val at this
    rw [hk0] at this
    exact this
  unfold Cm.cells at hX
  have HX := Lib.hid hX
  have e1 : decide ((c.kind : Int) < 1) = false := by simp; omega
  have e2 : decide ((9 : Int) ≤ (c.kind : Int)) = false := by simp; omega
  unfold Cm.val
  have HK0 := Lib.hid hk0
  clear hM h hX hk hkX hg2 hk0
  go_enter Tryd.func37, Tryd.ntmps37
  go_wp2_with fail
  rw [← HX.out]
  rw [show (c.kind : Int) = 4 by rw [HK0.out]; rfl] at x0
  refine wp_region_still_tail 6 (by kernel_rfl) (by kernel_rfl) ?_
  simp only [List.take_succ_cons, List.take_zero, List.drop_succ_cons, List.drop_zero]
  iterate 6 still_step
  refine wpStill_nil ?_
  go_wp2_with (go_at_call 114; refine hdo.mono ?_; clear hdo
               rintro e w2 ⟨⟨v, rfl, ve, vn, a1, a2, a3, n1, n2, n3, q1, q2, q3, rfl⟩, wv', n', hn', hS2, hM2, ho2⟩
               have HM2 := Lib.hid (HMd.out.next hS2 hM2 (fun k hk => .inl hk) (fun k hk => by rcases ho2 k hk with h1 | h1; exact .inl h1; exact .inr (Nat.le_trans HMd.out.sz h1)))
               clear hS2 hM2 ho2 HMd
               unfold ans
               obtain ⟨u0, r0⟩ := HM2.out.r 0 (by omega)
               obtain ⟨u1, r1⟩ := HM2.out.r 1 (by omega)
               obtain ⟨u2, r2⟩ := HM2.out.r 2 (by omega)
               obtain ⟨u3, r3⟩ := HM2.out.r 3 (by omega)
               obtain ⟨u4, r4⟩ := HM2.out.r 4 (by omega)
               have p0 := HM2.out.rf 0
               have p1 := HM2.out.rf 1
               have p2 := HM2.out.rf 2
               have p3 := HM2.out.rf 3
               have p4 := HM2.out.rf 4)
  obtain ⟨z0, z1, z2, z3, z4⟩ := set5_cells (B := w.heap.size + 1) (.int .i64 ve) (.int .i64 vn) (.slice a1 n1 q1) (.slice a2 n2 q2) (.slice a3 n3 q3) HM2.out.r
  refine bodyPost_ret (v := .agg #[.int .i64 ve, .int .i64 vn, .slice a1 n1 q1, .slice a2 n2 q2, .slice a3 n3 q3]) (by simp [results, Tryd.results37, go_sem, z0, z1, z2, z3, z4]) rfl ?_
  exact HM2.out.fin hn' _ _ _ _ _ rfl (ansv _ _ _ _ _ _ _ _ _ _ _)
set_option maxRecDepth 100000 in
set_option maxHeartbeats 4000000 in
theorem do_sweep (h : IsSvc w b tb kb mb wv n s) (hs : s.Ok) (hk : Kinds w) (c : Cm) (hk0 : c.kind = 5) : Calls Tryd.prog 37 #[.pointer (some ⟨b, 0, none⟩), c.val] w (MPost w b tb kb mb wv n (s.sweep c)) := by
  have hM := MB.made h c
  have hg2 := h.g
  have hkX := hM.mv.block _ hk.lt (fun hf => absurd (hg2 _ hf) (by decide))
  have kc := (hk.keep hkX).k5
  obtain ⟨X, hX⟩ : ∃ X, X = ((w.alloc (.cells c.cells.toArray 36)).alloc (.cells #[.int .i64 0, .int .i64 0, .slice none 0 0, .slice none 0 0, .slice none 0 0] 111)) := ⟨_, rfl⟩
  rw [← hX] at hM kc
  have x0 := hM.cb 0 _ rfl
  have x1 := hM.cb 1 _ rfl
  have x2 := hM.cb 2 _ rfl
  have x3 := hM.cb 3 _ rfl
  have x4 := hM.cb 4 _ rfl
  have x5 := hM.cb 5 _ rfl
  have x6 := hM.cb 6 _ rfl
  have x7 := hM.cb 7 _ rfl
  have x8 := hM.cb 8 _ rfl
  have HMd := Lib.hid hM.drew
  have hdo : Calls Tryd.prog 115 #[.pointer (some ⟨b, 0, none⟩), .agg #[.int .i64 5, .int .i64 (c.client : Int), .int .i64 (c.seq : Int), .int .i64 (c.now : Int), .int .i64 (c.len : Int), .int .i64 (c.a : Int), .int .i64 (c.b : Int), .int .i64 (c.mode : Int), .int .i64 (c.other : Int)]] X.drew (MPost X.drew b tb kb mb wv n (s.sweep c)) := by
    have := gsweep_any HMd.out.svc hs c
    unfold Cm.val at this
    rw [hk0] at this
    exact this
  unfold Cm.cells at hX
  have HX := Lib.hid hX
  have e1 : decide ((c.kind : Int) < 1) = false := by simp; omega
  have e2 : decide ((9 : Int) ≤ (c.kind : Int)) = false := by simp; omega
  unfold Cm.val
  have HK0 := Lib.hid hk0
  clear hM h hX hk hkX hg2 hk0
  go_enter Tryd.func37, Tryd.ntmps37
  go_wp2_with fail
  rw [← HX.out]
  rw [show (c.kind : Int) = 5 by rw [HK0.out]; rfl] at x0
  refine wp_region_still_tail 6 (by kernel_rfl) (by kernel_rfl) ?_
  simp only [List.take_succ_cons, List.take_zero, List.drop_succ_cons, List.drop_zero]
  iterate 6 still_step
  refine wpStill_nil ?_
  go_wp2_with (go_at_call 115; refine hdo.mono ?_; clear hdo
               rintro e w2 ⟨⟨v, rfl, ve, vn, a1, a2, a3, n1, n2, n3, q1, q2, q3, rfl⟩, wv', n', hn', hS2, hM2, ho2⟩
               have HM2 := Lib.hid (HMd.out.next hS2 hM2 (fun k hk => .inl hk) (fun k hk => by rcases ho2 k hk with h1 | h1; exact .inl h1; exact .inr (Nat.le_trans HMd.out.sz h1)))
               clear hS2 hM2 ho2 HMd
               unfold ans
               obtain ⟨u0, r0⟩ := HM2.out.r 0 (by omega)
               obtain ⟨u1, r1⟩ := HM2.out.r 1 (by omega)
               obtain ⟨u2, r2⟩ := HM2.out.r 2 (by omega)
               obtain ⟨u3, r3⟩ := HM2.out.r 3 (by omega)
               obtain ⟨u4, r4⟩ := HM2.out.r 4 (by omega)
               have p0 := HM2.out.rf 0
               have p1 := HM2.out.rf 1
               have p2 := HM2.out.rf 2
               have p3 := HM2.out.rf 3
               have p4 := HM2.out.rf 4)
  obtain ⟨z0, z1, z2, z3, z4⟩ := set5_cells (B := w.heap.size + 1) (.int .i64 ve) (.int .i64 vn) (.slice a1 n1 q1) (.slice a2 n2 q2) (.slice a3 n3 q3) HM2.out.r
  refine bodyPost_ret (v := .agg #[.int .i64 ve, .int .i64 vn, .slice a1 n1 q1, .slice a2 n2 q2, .slice a3 n3 q3]) (by simp [results, Tryd.results37, go_sem, z0, z1, z2, z3, z4]) rfl ?_
  exact HM2.out.fin hn' _ _ _ _ _ rfl (ansv _ _ _ _ _ _ _ _ _ _ _)
set_option maxRecDepth 100000 in
set_option maxHeartbeats 4000000 in
theorem do_recover (h : IsSvc w b tb kb mb wv n s) (hs : s.Ok) (hk : Kinds w) (hn : n < 1000000) (c : Cm) (ho : c.other < 1000) (hk0 : c.kind = 6) : Calls Tryd.prog 37 #[.pointer (some ⟨b, 0, none⟩), c.val] w (MPost w b tb kb mb wv n (s.recover c)) := by
  have hM := MB.made h c
  have hg2 := h.g
  have hkX := hM.mv.block _ hk.lt (fun hf => absurd (hg2 _ hf) (by decide))
  have kc := (hk.keep hkX).k6
  obtain ⟨X, hX⟩ : ∃ X, X = ((w.alloc (.cells c.cells.toArray 36)).alloc (.cells #[.int .i64 0, .int .i64 0, .slice none 0 0, .slice none 0 0, .slice none 0 0] 111)) := ⟨_, rfl⟩
  rw [← hX] at hM kc
  have x0 := hM.cb 0 _ rfl
  have x1 := hM.cb 1 _ rfl
  have x2 := hM.cb 2 _ rfl
  have x3 := hM.cb 3 _ rfl
  have x4 := hM.cb 4 _ rfl
  have x5 := hM.cb 5 _ rfl
  have x6 := hM.cb 6 _ rfl
  have x7 := hM.cb 7 _ rfl
  have x8 := hM.cb 8 _ rfl
  have HMd := Lib.hid hM.drew
  have hdo : Calls Tryd.prog 116 #[.pointer (some ⟨b, 0, none⟩), .agg #[.int .i64 6, .int .i64 (c.client : Int), .int .i64 (c.seq : Int), .int .i64 (c.now : Int), .int .i64 (c.len : Int), .int .i64 (c.a : Int), .int .i64 (c.b : Int), .int .i64 (c.mode : Int), .int .i64 (c.other : Int)]] X.drew (MPost X.drew b tb kb mb wv n (s.recover c)) := by
    have := grecover_any HMd.out.svc hs hn c ho
    unfold Cm.val at this
    rw [hk0] at this
    exact this
  unfold Cm.cells at hX
  have HX := Lib.hid hX
  have e1 : decide ((c.kind : Int) < 1) = false := by simp; omega
  have e2 : decide ((9 : Int) ≤ (c.kind : Int)) = false := by simp; omega
  unfold Cm.val
  have HK0 := Lib.hid hk0
  clear hM h hX hk hkX hg2 hk0
  go_enter Tryd.func37, Tryd.ntmps37
  go_wp2_with fail
  rw [← HX.out]
  rw [show (c.kind : Int) = 6 by rw [HK0.out]; rfl] at x0
  refine wp_region_still_tail 6 (by kernel_rfl) (by kernel_rfl) ?_
  simp only [List.take_succ_cons, List.take_zero, List.drop_succ_cons, List.drop_zero]
  iterate 6 still_step
  refine wpStill_nil ?_
  go_wp2_with (go_at_call 116; refine hdo.mono ?_; clear hdo
               rintro e w2 ⟨⟨v, rfl, ve, vn, a1, a2, a3, n1, n2, n3, q1, q2, q3, rfl⟩, wv', n', hn', hS2, hM2, ho2⟩
               have HM2 := Lib.hid (HMd.out.next hS2 hM2 (fun k hk => .inl hk) (fun k hk => by rcases ho2 k hk with h1 | h1; exact .inl h1; exact .inr (Nat.le_trans HMd.out.sz h1)))
               clear hS2 hM2 ho2 HMd
               unfold ans
               obtain ⟨u0, r0⟩ := HM2.out.r 0 (by omega)
               obtain ⟨u1, r1⟩ := HM2.out.r 1 (by omega)
               obtain ⟨u2, r2⟩ := HM2.out.r 2 (by omega)
               obtain ⟨u3, r3⟩ := HM2.out.r 3 (by omega)
               obtain ⟨u4, r4⟩ := HM2.out.r 4 (by omega)
               have p0 := HM2.out.rf 0
               have p1 := HM2.out.rf 1
               have p2 := HM2.out.rf 2
               have p3 := HM2.out.rf 3
               have p4 := HM2.out.rf 4)
  obtain ⟨z0, z1, z2, z3, z4⟩ := set5_cells (B := w.heap.size + 1) (.int .i64 ve) (.int .i64 vn) (.slice a1 n1 q1) (.slice a2 n2 q2) (.slice a3 n3 q3) HM2.out.r
  refine bodyPost_ret (v := .agg #[.int .i64 ve, .int .i64 vn, .slice a1 n1 q1, .slice a2 n2 q2, .slice a3 n3 q3]) (by simp [results, Tryd.results37, go_sem, z0, z1, z2, z3, z4]) rfl ?_
  exact HM2.out.fin hn' _ _ _ _ _ rfl (ansv _ _ _ _ _ _ _ _ _ _ _)
set_option maxRecDepth 100000 in
set_option maxHeartbeats 4000000 in
theorem do_done (h : IsSvc w b tb kb mb wv n s) (hs : s.Ok) (hk : Kinds w) (c : Cm) (ho : c.other < 1000) (hk0 : c.kind = 7) : Calls Tryd.prog 37 #[.pointer (some ⟨b, 0, none⟩), c.val] w (MPost w b tb kb mb wv n (s.done c)) := by
  have hM := MB.made h c
  have hg2 := h.g
  have hkX := hM.mv.block _ hk.lt (fun hf => absurd (hg2 _ hf) (by decide))
  have kc := (hk.keep hkX).k7
  obtain ⟨X, hX⟩ : ∃ X, X = ((w.alloc (.cells c.cells.toArray 36)).alloc (.cells #[.int .i64 0, .int .i64 0, .slice none 0 0, .slice none 0 0, .slice none 0 0] 111)) := ⟨_, rfl⟩
  rw [← hX] at hM kc
  have x0 := hM.cb 0 _ rfl
  have x1 := hM.cb 1 _ rfl
  have x2 := hM.cb 2 _ rfl
  have x3 := hM.cb 3 _ rfl
  have x4 := hM.cb 4 _ rfl
  have x5 := hM.cb 5 _ rfl
  have x6 := hM.cb 6 _ rfl
  have x7 := hM.cb 7 _ rfl
  have x8 := hM.cb 8 _ rfl
  have HMd := Lib.hid hM.drew
  have hdo : Calls Tryd.prog 117 #[.pointer (some ⟨b, 0, none⟩), .agg #[.int .i64 7, .int .i64 (c.client : Int), .int .i64 (c.seq : Int), .int .i64 (c.now : Int), .int .i64 (c.len : Int), .int .i64 (c.a : Int), .int .i64 (c.b : Int), .int .i64 (c.mode : Int), .int .i64 (c.other : Int)]] X.drew (MPost X.drew b tb kb mb wv n (s.done c)) := by
    have := gdone_any HMd.out.svc hs c ho
    unfold Cm.val at this
    rw [hk0] at this
    exact this
  unfold Cm.cells at hX
  have HX := Lib.hid hX
  have e1 : decide ((c.kind : Int) < 1) = false := by simp; omega
  have e2 : decide ((9 : Int) ≤ (c.kind : Int)) = false := by simp; omega
  unfold Cm.val
  have HK0 := Lib.hid hk0
  clear hM h hX hk hkX hg2 hk0
  go_enter Tryd.func37, Tryd.ntmps37
  go_wp2_with fail
  rw [← HX.out]
  rw [show (c.kind : Int) = 7 by rw [HK0.out]; rfl] at x0
  refine wp_region_still_tail 6 (by kernel_rfl) (by kernel_rfl) ?_
  simp only [List.take_succ_cons, List.take_zero, List.drop_succ_cons, List.drop_zero]
  iterate 6 still_step
  refine wpStill_nil ?_
  go_wp2_with (go_at_call 117; refine hdo.mono ?_; clear hdo
               rintro e w2 ⟨⟨v, rfl, ve, vn, a1, a2, a3, n1, n2, n3, q1, q2, q3, rfl⟩, wv', n', hn', hS2, hM2, ho2⟩
               have HM2 := Lib.hid (HMd.out.next hS2 hM2 (fun k hk => .inl hk) (fun k hk => by rcases ho2 k hk with h1 | h1; exact .inl h1; exact .inr (Nat.le_trans HMd.out.sz h1)))
               clear hS2 hM2 ho2 HMd
               unfold ans
               obtain ⟨u0, r0⟩ := HM2.out.r 0 (by omega)
               obtain ⟨u1, r1⟩ := HM2.out.r 1 (by omega)
               obtain ⟨u2, r2⟩ := HM2.out.r 2 (by omega)
               obtain ⟨u3, r3⟩ := HM2.out.r 3 (by omega)
               obtain ⟨u4, r4⟩ := HM2.out.r 4 (by omega)
               have p0 := HM2.out.rf 0
               have p1 := HM2.out.rf 1
               have p2 := HM2.out.rf 2
               have p3 := HM2.out.rf 3
               have p4 := HM2.out.rf 4)
  obtain ⟨z0, z1, z2, z3, z4⟩ := set5_cells (B := w.heap.size + 1) (.int .i64 ve) (.int .i64 vn) (.slice a1 n1 q1) (.slice a2 n2 q2) (.slice a3 n3 q3) HM2.out.r
  refine bodyPost_ret (v := .agg #[.int .i64 ve, .int .i64 vn, .slice a1 n1 q1, .slice a2 n2 q2, .slice a3 n3 q3]) (by simp [results, Tryd.results37, go_sem, z0, z1, z2, z3, z4]) rfl ?_
  exact HM2.out.fin hn' _ _ _ _ _ rfl (ansv _ _ _ _ _ _ _ _ _ _ _)
set_option maxRecDepth 100000 in
set_option maxHeartbeats 4000000 in
theorem do_cancel (h : IsSvc w b tb kb mb wv n s) (hs : s.Ok) (hk : Kinds w) (c : Cm) (hk0 : c.kind = 8) : Calls Tryd.prog 37 #[.pointer (some ⟨b, 0, none⟩), c.val] w (MPost w b tb kb mb wv n (s.cancel c)) := by
  have hM := MB.made h c
  have hg2 := h.g
  have hkX := hM.mv.block _ hk.lt (fun hf => absurd (hg2 _ hf) (by decide))
  have kc := (hk.keep hkX).k8
  obtain ⟨X, hX⟩ : ∃ X, X = ((w.alloc (.cells c.cells.toArray 36)).alloc (.cells #[.int .i64 0, .int .i64 0, .slice none 0 0, .slice none 0 0, .slice none 0 0] 111)) := ⟨_, rfl⟩
  rw [← hX] at hM kc
  have x0 := hM.cb 0 _ rfl
  have x1 := hM.cb 1 _ rfl
  have x2 := hM.cb 2 _ rfl
  have x3 := hM.cb 3 _ rfl
  have x4 := hM.cb 4 _ rfl
  have x5 := hM.cb 5 _ rfl
  have x6 := hM.cb 6 _ rfl
  have x7 := hM.cb 7 _ rfl
  have x8 := hM.cb 8 _ rfl
  have HMd := Lib.hid hM.drew
  have hdo : Calls Tryd.prog 118 #[.pointer (some ⟨b, 0, none⟩), .agg #[.int .i64 8, .int .i64 (c.client : Int), .int .i64 (c.seq : Int), .int .i64 (c.now : Int), .int .i64 (c.len : Int), .int .i64 (c.a : Int), .int .i64 (c.b : Int), .int .i64 (c.mode : Int), .int .i64 (c.other : Int)]] X.drew (MPost X.drew b tb kb mb wv n (s.cancel c)) := by
    have := gcancel_any HMd.out.svc hs c
    unfold Cm.val at this
    rw [hk0] at this
    exact this
  unfold Cm.cells at hX
  have HX := Lib.hid hX
  have e1 : decide ((c.kind : Int) < 1) = false := by simp; omega
  have e2 : decide ((9 : Int) ≤ (c.kind : Int)) = false := by simp; omega
  unfold Cm.val
  have HK0 := Lib.hid hk0
  clear hM h hX hk hkX hg2 hk0
  go_enter Tryd.func37, Tryd.ntmps37
  go_wp2_with fail
  rw [← HX.out]
  rw [show (c.kind : Int) = 8 by rw [HK0.out]; rfl] at x0
  refine wp_region_still_tail 6 (by kernel_rfl) (by kernel_rfl) ?_
  simp only [List.take_succ_cons, List.take_zero, List.drop_succ_cons, List.drop_zero]
  iterate 6 still_step
  refine wpStill_nil ?_
  go_wp2_with (go_at_call 118; refine hdo.mono ?_; clear hdo
               rintro e w2 ⟨⟨v, rfl, ve, vn, a1, a2, a3, n1, n2, n3, q1, q2, q3, rfl⟩, wv', n', hn', hS2, hM2, ho2⟩
               have HM2 := Lib.hid (HMd.out.next hS2 hM2 (fun k hk => .inl hk) (fun k hk => by rcases ho2 k hk with h1 | h1; exact .inl h1; exact .inr (Nat.le_trans HMd.out.sz h1)))
               clear hS2 hM2 ho2 HMd
               unfold ans
               obtain ⟨u0, r0⟩ := HM2.out.r 0 (by omega)
               obtain ⟨u1, r1⟩ := HM2.out.r 1 (by omega)
               obtain ⟨u2, r2⟩ := HM2.out.r 2 (by omega)
               obtain ⟨u3, r3⟩ := HM2.out.r 3 (by omega)
               obtain ⟨u4, r4⟩ := HM2.out.r 4 (by omega)
               have p0 := HM2.out.rf 0
               have p1 := HM2.out.rf 1
               have p2 := HM2.out.rf 2
               have p3 := HM2.out.rf 3
               have p4 := HM2.out.rf 4)
  obtain ⟨z0, z1, z2, z3, z4⟩ := set5_cells (B := w.heap.size + 1) (.int .i64 ve) (.int .i64 vn) (.slice a1 n1 q1) (.slice a2 n2 q2) (.slice a3 n3 q3) HM2.out.r
  refine bodyPost_ret (v := .agg #[.int .i64 ve, .int .i64 vn, .slice a1 n1 q1, .slice a2 n2 q2, .slice a3 n3 q3]) (by simp [results, Tryd.results37, go_sem, z0, z1, z2, z3, z4]) rfl ?_
  exact HM2.out.fin hn' _ _ _ _ _ rfl (ansv _ _ _ _ _ _ _ _ _ _ _)
theorem do_any (h : IsSvc w b tb kb mb wv n s) (hs : s.Ok) (hk : Kinds w) (hn : n < 1000000) (c : Cm) (ho : c.other < 1000) : Calls Tryd.prog 37 #[.pointer (some ⟨b, 0, none⟩), c.val] w (MPost w b tb kb mb wv n (s.do c)) := by
  by_cases h0 : c.kind < 1 ∨ 9 ≤ c.kind
  · have : s.do c = s := by
      unfold GS.do
      split <;> first | rfl | (exfalso; omega)
    rw [this]
    exact do_bad h c h0
  · have h8 : c.kind = 1 ∨ c.kind = 2 ∨ c.kind = 3 ∨ c.kind = 4 ∨ c.kind = 5 ∨ c.kind = 6 ∨ c.kind = 7 ∨ c.kind = 8 := by omega
    unfold GS.do
    rcases h8 with e | e | e | e | e | e | e | e <;> rw [e]
    · exact do_ask h hs hk c e
    · exact do_release h hs hk c e
    · exact do_weaken h hs hk c e
    · exact do_renew h hk c e
    · exact do_sweep h hs hk c e
    · exact do_recover h hs hk hn c ho e
    · exact do_done h hs hk c ho e
    · exact do_cancel h hs hk c e
set_option maxRecDepth 100000 in
theorem holds_any (h : IsSvc w b tb kb mb wv n s) (hs : s.Ok) : Calls Tryd.prog 13 #[.pointer (some ⟨b, 0, none⟩)] w fun e w' => ∃ v, e = .returned v ∧ w'.ownsRow w.heap.size 57 4 v (holdsOf s.R).length (hrows (holdsOf s.R)) ∧ Below w.heap.size w w' := by
  have hl := slist_any h.tab hs.R h.whole
  have c0 := h.c0
  clear h
  go_enter Tryd.func13, Tryd.ntmps13
  go_wp2_with (go_at_call 41; refine hl.mono ?_; clear hl; rintro e w1 ⟨v, rfl, ho, hb⟩; obtain ⟨a, q, rfl⟩ := row_lens ho)
  go_ret
  exact ⟨_, rfl, ho, hb⟩
set_option maxRecDepth 100000 in
theorem waits_any (h : IsSvc w b tb kb mb wv n s) (hs : s.Ok) : Calls Tryd.prog 14 #[.pointer (some ⟨b, 0, none⟩)] w fun e w' => ∃ v, e = .returned v ∧ w'.ownsRow w.heap.size 57 4 v s.wait.length (hrows s.wait) ∧ Below w.heap.size w w' := by
  obtain ⟨wa, wc, rfl⟩ := row_lens h.row
  have hl := hclone_any h.row (by have := hs.n; omega)
  have c2 := h.c2
  clear h
  go_enter Tryd.func14, Tryd.ntmps14
  go_wp2_with (go_at_call 42; refine hl.mono ?_; clear hl; rintro e w1 ⟨v, rfl, ho, hb⟩; obtain ⟨a, q, rfl⟩ := row_lens ho)
  go_ret
  exact ⟨_, rfl, ho, hb⟩
set_option maxRecDepth 100000 in
set_option maxHeartbeats 2000000 in
theorem gnew_any (hW : Whole w) (h2 : 2 ≤ w.heap.size) : Calls Tryd.prog 4 #[] w fun e w' => ∃ b tb kb mb, e = .returned (.pointer (some ⟨b, 0, none⟩)) ∧ IsSvc w' b tb kb mb (.slice none 0 0) 0 GS.new ∧ Below w.heap.size w w' ∧ w.heap.size ≤ b ∧ (∀ k, fps b tb kb mb (.slice none 0 0) k → w.heap.size ≤ k) := by
  have hmm := @run_makeMap Tryd.prog
  have hsn := fun W => snew_any (w := W)
  have hbn := fun W => newbook_any (w := W)
  have HW := Lib.hid hW
  clear hW
  go_enter Tryd.func4, Tryd.ntmps4
  go_wp2_with (first
    | (go_at_call 15; refine (hsn _).mono ?_; clear hsn; rintro e w1 ⟨rfl, hT, hb1⟩
       have HT := Lib.hid hT
       have HB1 := Lib.hid hb1
       clear hT hb1)
    | (go_at_call 16; refine (hbn _).mono ?_; clear hbn; rintro e w2 ⟨rfl, hB, hb2⟩
       have HB := Lib.hid hB
       have HB2 := Lib.hid hb2
       clear hB hb2))
  go_ret
  have hb1 := HB1.out
  have hb2 := HB2.out
  have hs1 := hb1.size
  have hlt1 := HT.out.lt
  have hlt2 := HB.out.lt
  have hbX : Below w2.heap.size w2 ((w2.alloc (.map #[] 0)).alloc (.cells #[.pointer (some ⟨w.heap.size, 0, none⟩), .pointer (some ⟨w1.heap.size, 0, none⟩), .slice none 0 0, .int .i64 0, .map (some w2.heap.size)] 67)) := ((Below.refl _ _).alloc (Nat.le_refl _) _).alloc (by simp) _
  have hall : Below w.heap.size w ((w2.alloc (.map #[] 0)).alloc (.cells #[.pointer (some ⟨w.heap.size, 0, none⟩), .pointer (some ⟨w1.heap.size, 0, none⟩), .slice none 0 0, .int .i64 0, .map (some w2.heap.size)] 67)) := (hb1.trans (hb2.mono hs1)).trans (hbX.mono (by omega))
  have hsz : (w2.alloc (.map #[] 0)).heap.size = w2.heap.size + 1 := by simp
  have hc : ∀ o, ((w2.alloc (.map #[] 0)).alloc (.cells #[.pointer (some ⟨w.heap.size, 0, none⟩), .pointer (some ⟨w1.heap.size, 0, none⟩), .slice none 0 0, .int .i64 0, .map (some w2.heap.size)] 67)).cell? ⟨w2.heap.size + 1, o, none⟩ = #[Value.pointer (some ⟨w.heap.size, 0, none⟩), .pointer (some ⟨w1.heap.size, 0, none⟩), .slice none 0 0, .int .i64 0, .map (some w2.heap.size)][o]? := fun o => by
    rw [← hsz]; exact World.cell?_alloc_new _ _ _ _
  have hfp : ∀ k, fps (w2.heap.size + 1) w.heap.size w1.heap.size w2.heap.size (.slice none 0 0) k → w.heap.size ≤ k := fun k hk => by
    rcases hk with rfl | rfl | rfl | rfl | hk
    · omega
    · omega
    · omega
    · omega
    · cases hk
  refine ⟨_, _, _, _, rfl, ⟨hc 0, hc 1, hc 2, hc 3, hc 4, fun o => ?_, (HT.out.keep (hb2.block _ hlt1)).keep (hbX.block _ (by omega)), HB.out.keep (hbX.block _ hlt2), World.ownsRow_nil _ _ _ _, ?_, by omega, fun k hk => (by cases hk), HW.out.keep (hall.block _ HW.out.lt), fun k hk => Nat.le_trans h2 (hfp k hk)⟩, hall, by omega, hfp⟩
  · rw [← hsz]; exact World.frozen?_alloc_new _ _ _ _
  · have h0 : byV (fun _ => none) = fun _ => none := by funext i; unfold byV; split <;> rfl
    show IMap _ _ _ _ _ (byV fun _ => none)
    rw [h0]
    exact (IMap.made Tryd.prog 3 w2).keep (Below.heap_alloc _ _ _ (by simp))
end
end Go.Proofs.YtfjfkmoofmncnaaDoor
