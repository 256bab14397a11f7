/- The commands' methods: ask. -/
import Derived.Test.YtfjfkmoofmncnaaDoorGe
import Derived.Deep.AppendLies
namespace Go.Proofs.YtfjfkmoofmncnaaDoor
open Go.RowKit
section
variable {w w' X X' : World} {b tb kb mb n n' : Nat} {wv0 wv wv' : Value} {s s' : GS} {c : Cm}
theorem IsSvc.grown (h : IsSvc w b tb kb mb wv n s) {l : List Hd} (hm : Moves (fun k => wv.ownBlock = some k) w w') (hr : w'.ownsRow 0 57 4 wv' l.length (hrows l)) (hob : ∀ k, wv'.ownBlock = some k → wv.ownBlock = some k ∨ w.heap.size ≤ k) : IsSvc (w'.setCell ⟨b, 2, none⟩ wv') b tb kb mb wv' n ⟨s.R, s.B, l, s.last, s.by'⟩ := by
  obtain ⟨e1, e2, e3, e4, e5, e6⟩ := h.d1
  have hl := h.lt
  have hd : ∀ k, k = b ∨ k = tb ∨ k = kb ∨ k = mb ∨ k = 1 → ¬ wv.ownBlock = some k := fun k hk he => by
    have h1 := h.d2 k he
    have h2 := h.g k (.inr (.inr (.inr (.inr he))))
    rcases hk with e | e | e | e | e
    · exact h1.1 e
    · exact h1.2.1 e
    · exact h1.2.2.1 e
    · exact h1.2.2.2 e
    · rw [e] at h2; exact absurd h2 (by decide)
  have hb := hm.block b (hl b (.inl rfl)) (hd b (.inl rfl))
  have hk : ∀ k, k ≠ b → (w'.setCell ⟨b, 2, none⟩ wv').heap[k]? = w'.heap[k]? := fun k hk => Below.heap_setCell _ _ _ _ hk
  have hc : ∀ o v, w.cell? ⟨b, o, none⟩ = some v → w'.cell? ⟨b, o, none⟩ = some v := fun o v h => (World.cell?_of_block (a := ⟨b, o, none⟩) hb).trans h
  have hn : ∀ k, wv'.ownBlock = some k → k ≠ b ∧ k ≠ tb ∧ k ≠ kb ∧ k ≠ mb := fun k hv => by
    rcases hob k hv with h1 | h1
    · exact h.d2 k h1
    · have q1 := hl b (.inl rfl)
      have q2 := hl tb (.inr (.inl rfl))
      have q3 := hl kb (.inr (.inr (.inl rfl)))
      have q4 := hl mb (.inr (.inr (.inr (.inl rfl))))
      omega
  refine ⟨?_, ?_, World.cell?_setCell_same _ _ _ (hc _ _ h.c2), ?_, ?_, fun o => by rw [World.frozen?_setCell]; exact (World.frozen?_of_block (a := ⟨b, o, none⟩) hb).trans (h.fro o), h.tab.keep ((hk _ (Ne.symm e1)).trans (hm.block tb (hl tb (.inr (.inl rfl))) (hd tb (.inr (.inl rfl))))), h.book.keep ((hk _ (Ne.symm e2)).trans (hm.block kb (hl kb (.inr (.inr (.inl rfl)))) (hd kb (.inr (.inr (.inl rfl)))))), ownsRow_keep hr fun k hv => hk k (hn k hv).1, h.ma.keep ((hk _ (Ne.symm e3)).trans (hm.block mb (hl mb (.inr (.inr (.inr (.inl rfl))))) (hd mb (.inr (.inr (.inr (.inl rfl))))))), h.d1, hn, h.whole.keep ((hk _ (fun e => by have h2 := h.g b (.inl rfl); rw [← e] at h2; exact absurd h2 (by decide))).trans (hm.block _ h.whole.lt (hd _ (.inr (.inr (.inr (.inr rfl))))))), fun k hf => ?_⟩
  · rw [oth_cell _ _ _ (by omega)]; exact hc _ _ h.c0
  · rw [oth_cell _ _ _ (by omega)]; exact hc _ _ h.c1
  · rw [oth_cell _ _ _ (by omega)]; exact hc _ _ h.c3
  · rw [oth_cell _ _ _ (by omega)]; exact hc _ _ h.c4
  · rcases hf with hf | hf | hf | hf | hf
    · exact h.g k (.inl hf)
    · exact h.g k (.inr (.inl hf))
    · exact h.g k (.inr (.inr (.inl hf)))
    · exact h.g k (.inr (.inr (.inr (.inl hf))))
    · rcases hob k hf with h1 | h1
      · exact h.g k (.inr (.inr (.inr (.inr h1))))
      · have q1 := hl b (.inl rfl)
        have q2 := h.g b (.inl rfl)
        omega
set_option maxRecDepth 100000 in
set_option maxHeartbeats 4000000 in
theorem ask_e1 (h : IsSvc w b tb kb mb wv n s) (c : Cm) (hg : ¬ c.client < 8) : Calls Tryd.prog 111 #[.pointer (some ⟨b, 0, none⟩), c.val] w (MPost w b tb kb mb wv n (s)) := by
  obtain ⟨wa, wc, rfl⟩ := row_lens h.row
  have hM := MB.made h c
  obtain ⟨M, hMe⟩ : ∃ M, M = ((w.alloc (.cells c.cells.toArray 36)).alloc (.cells #[.int .i64 0, .int .i64 0, .slice none 0 0, .slice none 0 0, .slice none 0 0] 111)) := ⟨_, rfl⟩
  have hz : M.heap.size = w.heap.size + 1 + 1 := by rw [hMe]; simp
  rw [← hMe] at hM
  have hA := hM.below ((Below.refl _ _).alloc (Nat.le_refl _) (.cells #[.int .i64 (c.a : Int), .int .i64 (c.b : Int), .int .i64 (c.client : Int), .int .i64 (c.mode : Int)] 57))
  have hX := HBox.made M c.hd 57
  rw [hz] at hX
  have hX' : HBox (M.alloc (.cells #[.int .i64 (c.a : Int), .int .i64 (c.b : Int), .int .i64 (c.client : Int), .int .i64 (c.mode : Int)] 57)) (w.heap.size + 1 + 1) c.hd := hX
  have hflw := h.lt
  rw [hMe] at hA hX'
  clear hX hM
  unfold Cm.cells at hA hX'
  have HM := Lib.hid hA
  have HX := Lib.hid hX'
  have Hfl := Lib.hid hflw
  have hcl := fun W => gclient_any (w := W) c.client
  have hmix : Tryd.prog.follows .mixedOrders = true := by kernel_rfl
  have x1 := hA.cb 1 _ rfl
  have x5 := hA.cb 5 _ rfl
  have x6 := hA.cb 6 _ rfl
  have x7 := hA.cb 7 _ rfl
  clear h hA hX' hflw hMe hz
  rw [decide_eq_false hg] at hcl
  unfold Cm.val
  go_enter Tryd.func111, Tryd.ntmps111
  go_wp2_with (first
    | (go_at_call 119; refine (hcl _).mono ?_; clear hcl; rintro e w1 ⟨rfl, hw⟩; rw [hw] at HM HX x1 x5 x6 x7; clear hw
       obtain ⟨u0, r0⟩ := HM.out.r 0 (by omega)
       obtain ⟨u1, r1⟩ := HM.out.r 1 (by omega)
       obtain ⟨u2, r2⟩ := HM.out.r 2 (by omega)
       obtain ⟨u3, r3⟩ := HM.out.r 3 (by omega)
       obtain ⟨u4, r4⟩ := HM.out.r 4 (by omega)
       have p0 := HM.out.rf 0
       have p1 := HM.out.rf 1
       have p2 := HM.out.rf 2
       have p3 := HM.out.rf 3
       have p4 := HM.out.rf 4))
  obtain ⟨z0, z1, z2, z3, z4⟩ := set5_cells (B := w.heap.size + 1) (.int .i64 1) (.int .i64 0) (.slice none 0 0) (.slice none 0 0) (.slice none 0 0) HM.out.r
  refine bodyPost_ret (v := .agg #[.int .i64 1, .int .i64 0, .slice none 0 0, .slice none 0 0, .slice none 0 0]) (by simp [results, Tryd.results111, go_sem, z0, z1, z2, z3, z4]) rfl ?_
  exact HM.out.fin (by omega) _ _ _ _ _ rfl (ansv _ _ _ _ _ _ _ _ _ _ _)
set_option maxRecDepth 100000 in
set_option maxHeartbeats 4000000 in
theorem ask_e2 (h : IsSvc w b tb kb mb wv n s) (c : Cm) (hg : c.client < 8) (h1 : c.mode ≠ 1) (h2 : c.mode ≠ 2) : Calls Tryd.prog 111 #[.pointer (some ⟨b, 0, none⟩), c.val] w (MPost w b tb kb mb wv n (s)) := by
  obtain ⟨wa, wc, rfl⟩ := row_lens h.row
  have hM := MB.made h c
  obtain ⟨M, hMe⟩ : ∃ M, M = ((w.alloc (.cells c.cells.toArray 36)).alloc (.cells #[.int .i64 0, .int .i64 0, .slice none 0 0, .slice none 0 0, .slice none 0 0] 111)) := ⟨_, rfl⟩
  have hz : M.heap.size = w.heap.size + 1 + 1 := by rw [hMe]; simp
  rw [← hMe] at hM
  have hA := hM.below ((Below.refl _ _).alloc (Nat.le_refl _) (.cells #[.int .i64 (c.a : Int), .int .i64 (c.b : Int), .int .i64 (c.client : Int), .int .i64 (c.mode : Int)] 57))
  have hX := HBox.made M c.hd 57
  rw [hz] at hX
  have hX' : HBox (M.alloc (.cells #[.int .i64 (c.a : Int), .int .i64 (c.b : Int), .int .i64 (c.client : Int), .int .i64 (c.mode : Int)] 57)) (w.heap.size + 1 + 1) c.hd := hX
  have hflw := h.lt
  rw [hMe] at hA hX'
  clear hX hM
  unfold Cm.cells at hA hX'
  have HM := Lib.hid hA
  have HX := Lib.hid hX'
  have Hfl := Lib.hid hflw
  have hcl := fun W => gclient_any (w := W) c.client
  have hmix : Tryd.prog.follows .mixedOrders = true := by kernel_rfl
  have x1 := hA.cb 1 _ rfl
  have x5 := hA.cb 5 _ rfl
  have x6 := hA.cb 6 _ rfl
  have x7 := hA.cb 7 _ rfl
  clear h hA hX' hflw hMe hz
  rw [decide_eq_true hg] at hcl
  have em1 : ((c.mode : Int) != 1) = true := by simp; omega
  have em2 : ((c.mode : Int) != 2) = true := by simp; omega
  unfold Cm.val
  go_enter Tryd.func111, Tryd.ntmps111
  go_wp2_with (first
    | (go_at_call 119; refine (hcl _).mono ?_; clear hcl; rintro e w1 ⟨rfl, hw⟩; rw [hw] at HM HX x1 x5 x6 x7; clear hw
       obtain ⟨u0, r0⟩ := HM.out.r 0 (by omega)
       obtain ⟨u1, r1⟩ := HM.out.r 1 (by omega)
       obtain ⟨u2, r2⟩ := HM.out.r 2 (by omega)
       obtain ⟨u3, r3⟩ := HM.out.r 3 (by omega)
       obtain ⟨u4, r4⟩ := HM.out.r 4 (by omega)
       have p0 := HM.out.rf 0
       have p1 := HM.out.rf 1
       have p2 := HM.out.rf 2
       have p3 := HM.out.rf 3
       have p4 := HM.out.rf 4))
  obtain ⟨z0, z1, z2, z3, z4⟩ := set5_cells (B := w.heap.size + 1) (.int .i64 1) (.int .i64 0) (.slice none 0 0) (.slice none 0 0) (.slice none 0 0) HM.out.r
  refine bodyPost_ret (v := .agg #[.int .i64 1, .int .i64 0, .slice none 0 0, .slice none 0 0, .slice none 0 0]) (by simp [results, Tryd.results111, go_sem, z0, z1, z2, z3, z4]) rfl ?_
  exact HM.out.fin (by omega) _ _ _ _ _ rfl (ansv _ _ _ _ _ _ _ _ _ _ _)
set_option maxRecDepth 100000 in
set_option maxHeartbeats 4000000 in
theorem ask_e3 (h : IsSvc w b tb kb mb wv n s) (c : Cm) (hg : c.client < 8) (hmd : c.mode = 1 ∨ c.mode = 2) (hr : c.b ≤ c.a) : Calls Tryd.prog 111 #[.pointer (some ⟨b, 0, none⟩), c.val] w (MPost w b tb kb mb wv n (s)) := by
  obtain ⟨wa, wc, rfl⟩ := row_lens h.row
  have hM := MB.made h c
  obtain ⟨M, hMe⟩ : ∃ M, M = ((w.alloc (.cells c.cells.toArray 36)).alloc (.cells #[.int .i64 0, .int .i64 0, .slice none 0 0, .slice none 0 0, .slice none 0 0] 111)) := ⟨_, rfl⟩
  have hz : M.heap.size = w.heap.size + 1 + 1 := by rw [hMe]; simp
  rw [← hMe] at hM
  have hA := hM.below ((Below.refl _ _).alloc (Nat.le_refl _) (.cells #[.int .i64 (c.a : Int), .int .i64 (c.b : Int), .int .i64 (c.client : Int), .int .i64 (c.mode : Int)] 57))
  have hX := HBox.made M c.hd 57
  rw [hz] at hX
  have hX' : HBox (M.alloc (.cells #[.int .i64 (c.a : Int), .int .i64 (c.b : Int), .int .i64 (c.client : Int), .int .i64 (c.mode : Int)] 57)) (w.heap.size + 1 + 1) c.hd := hX
  have hflw := h.lt
  rw [hMe] at hA hX'
  clear hX hM
  unfold Cm.cells at hA hX'
  have HM := Lib.hid hA
  have HX := Lib.hid hX'
  have Hfl := Lib.hid hflw
  have hcl := fun W => gclient_any (w := W) c.client
  have hmix : Tryd.prog.follows .mixedOrders = true := by kernel_rfl
  have x1 := hA.cb 1 _ rfl
  have x5 := hA.cb 5 _ rfl
  have x6 := hA.cb 6 _ rfl
  have x7 := hA.cb 7 _ rfl
  clear h hA hX' hflw hMe hz
  rw [decide_eq_true hg] at hcl
  have ea : decide ((c.a : Int) < 0) = false := by simp
  have eg : decide ((c.b : Int) ≤ (c.a : Int)) = true := by simp; omega
  unfold Cm.val
  have em : ((c.mode : Int) != 1) = false ∨ (((c.mode : Int) != 1) = true ∧ ((c.mode : Int) != 2) = false) := by rcases hmd with e | e <;> simp [e]
  rcases em with em1 | ⟨em1, em2⟩
  all_goals
    go_enter Tryd.func111, Tryd.ntmps111
    go_wp2_with (first
      | (go_at_call 119; refine (hcl _).mono ?_; clear hcl; rintro e w1 ⟨rfl, hw⟩; rw [hw] at HM HX x1 x5 x6 x7; clear hw
         obtain ⟨u0, r0⟩ := HM.out.r 0 (by omega)
         obtain ⟨u1, r1⟩ := HM.out.r 1 (by omega)
         obtain ⟨u2, r2⟩ := HM.out.r 2 (by omega)
         obtain ⟨u3, r3⟩ := HM.out.r 3 (by omega)
         obtain ⟨u4, r4⟩ := HM.out.r 4 (by omega)
         have p0 := HM.out.rf 0
         have p1 := HM.out.rf 1
         have p2 := HM.out.rf 2
         have p3 := HM.out.rf 3
         have p4 := HM.out.rf 4))
    obtain ⟨z0, z1, z2, z3, z4⟩ := set5_cells (B := w.heap.size + 1) (.int .i64 71) (.int .i64 0) (.slice none 0 0) (.slice none 0 0) (.slice none 0 0) HM.out.r
    refine bodyPost_ret (v := .agg #[.int .i64 71, .int .i64 0, .slice none 0 0, .slice none 0 0, .slice none 0 0]) (by simp [results, Tryd.results111, go_sem, z0, z1, z2, z3, z4]) rfl ?_
    exact HM.out.fin (by omega) _ _ _ _ _ rfl (ansv _ _ _ _ _ _ _ _ _ _ _)
set_option maxRecDepth 100000 in
set_option maxHeartbeats 4000000 in
theorem ask_e4 (h : IsSvc w b tb kb mb wv n s) (c : Cm) (hg : c.client < 8) (hmd : c.mode = 1 ∨ c.mode = 2) (hr : c.a < c.b) (hr2 : 256 < c.b) : Calls Tryd.prog 111 #[.pointer (some ⟨b, 0, none⟩), c.val] w (MPost w b tb kb mb wv n (s)) := by
  obtain ⟨wa, wc, rfl⟩ := row_lens h.row
  have hM := MB.made h c
  obtain ⟨M, hMe⟩ : ∃ M, M = ((w.alloc (.cells c.cells.toArray 36)).alloc (.cells #[.int .i64 0, .int .i64 0, .slice none 0 0, .slice none 0 0, .slice none 0 0] 111)) := ⟨_, rfl⟩
  have hz : M.heap.size = w.heap.size + 1 + 1 := by rw [hMe]; simp
  rw [← hMe] at hM
  have hA := hM.below ((Below.refl _ _).alloc (Nat.le_refl _) (.cells #[.int .i64 (c.a : Int), .int .i64 (c.b : Int), .int .i64 (c.client : Int), .int .i64 (c.mode : Int)] 57))
  have hX := HBox.made M c.hd 57
  rw [hz] at hX
  have hX' : HBox (M.alloc (.cells #[.int .i64 (c.a : Int), .int .i64 (c.b : Int), .int .i64 (c.client : Int), .int .i64 (c.mode : Int)] 57)) (w.heap.size + 1 + 1) c.hd := hX
  have hflw := h.lt
  rw [hMe] at hA hX'
  clear hX hM
  unfold Cm.cells at hA hX'
  have HM := Lib.hid hA
  have HX := Lib.hid hX'
  have Hfl := Lib.hid hflw
  have hcl := fun W => gclient_any (w := W) c.client
  have hmix : Tryd.prog.follows .mixedOrders = true := by kernel_rfl
  have x1 := hA.cb 1 _ rfl
  have x5 := hA.cb 5 _ rfl
  have x6 := hA.cb 6 _ rfl
  have x7 := hA.cb 7 _ rfl
  clear h hA hX' hflw hMe hz
  rw [decide_eq_true hg] at hcl
  have ea : decide ((c.a : Int) < 0) = false := by simp
  have eg : decide ((c.b : Int) ≤ (c.a : Int)) = false := by simp; omega
  have eb : decide ((256 : Int) < (c.b : Int)) = true := by simp; omega
  unfold Cm.val
  have em : ((c.mode : Int) != 1) = false ∨ (((c.mode : Int) != 1) = true ∧ ((c.mode : Int) != 2) = false) := by rcases hmd with e | e <;> simp [e]
  rcases em with em1 | ⟨em1, em2⟩
  all_goals
    go_enter Tryd.func111, Tryd.ntmps111
    go_wp2_with (first
      | (go_at_call 119; refine (hcl _).mono ?_; clear hcl; rintro e w1 ⟨rfl, hw⟩; rw [hw] at HM HX x1 x5 x6 x7; clear hw
         obtain ⟨u0, r0⟩ := HM.out.r 0 (by omega)
         obtain ⟨u1, r1⟩ := HM.out.r 1 (by omega)
         obtain ⟨u2, r2⟩ := HM.out.r 2 (by omega)
         obtain ⟨u3, r3⟩ := HM.out.r 3 (by omega)
         obtain ⟨u4, r4⟩ := HM.out.r 4 (by omega)
         have p0 := HM.out.rf 0
         have p1 := HM.out.rf 1
         have p2 := HM.out.rf 2
         have p3 := HM.out.rf 3
         have p4 := HM.out.rf 4))
    obtain ⟨z0, z1, z2, z3, z4⟩ := set5_cells (B := w.heap.size + 1) (.int .i64 71) (.int .i64 0) (.slice none 0 0) (.slice none 0 0) (.slice none 0 0) HM.out.r
    refine bodyPost_ret (v := .agg #[.int .i64 71, .int .i64 0, .slice none 0 0, .slice none 0 0, .slice none 0 0]) (by simp [results, Tryd.results111, go_sem, z0, z1, z2, z3, z4]) rfl ?_
    exact HM.out.fin (by omega) _ _ _ _ _ rfl (ansv _ _ _ _ _ _ _ _ _ _ _)
set_option maxRecDepth 100000 in
set_option maxHeartbeats 4000000 in
theorem ask_e5 (h : IsSvc w b tb kb mb wv n s) (c : Cm) (hg : c.client < 8) (hmd : c.mode = 1 ∨ c.mode = 2) (hr : c.a < c.b) (hr2 : c.b ≤ 256) (hlv : livesB s.B c.client = false) : Calls Tryd.prog 111 #[.pointer (some ⟨b, 0, none⟩), c.val] w (MPost w b tb kb mb wv n (s)) := by
  obtain ⟨wa, wc, rfl⟩ := row_lens h.row
  have hM := MB.made h c
  obtain ⟨M, hMe⟩ : ∃ M, M = ((w.alloc (.cells c.cells.toArray 36)).alloc (.cells #[.int .i64 0, .int .i64 0, .slice none 0 0, .slice none 0 0, .slice none 0 0] 111)) := ⟨_, rfl⟩
  have hz : M.heap.size = w.heap.size + 1 + 1 := by rw [hMe]; simp
  rw [← hMe] at hM
  have hA := hM.below ((Below.refl _ _).alloc (Nat.le_refl _) (.cells #[.int .i64 (c.a : Int), .int .i64 (c.b : Int), .int .i64 (c.client : Int), .int .i64 (c.mode : Int)] 57))
  have hX := HBox.made M c.hd 57
  rw [hz] at hX
  have hX' : HBox (M.alloc (.cells #[.int .i64 (c.a : Int), .int .i64 (c.b : Int), .int .i64 (c.client : Int), .int .i64 (c.mode : Int)] 57)) (w.heap.size + 1 + 1) c.hd := hX
  have hflw := h.lt
  rw [hMe] at hA hX'
  clear hX hM
  unfold Cm.cells at hA hX'
  have HM := Lib.hid hA
  have HX := Lib.hid hX'
  have Hfl := Lib.hid hflw
  have hcl := fun W => gclient_any (w := W) c.client
  have hmix : Tryd.prog.follows .mixedOrders = true := by kernel_rfl
  have x1 := hA.cb 1 _ rfl
  have x5 := hA.cb 5 _ rfl
  have x6 := hA.cb 6 _ rfl
  have x7 := hA.cb 7 _ rfl
  clear h hA hX' hflw hMe hz
  rw [decide_eq_true hg] at hcl
  have ea : decide ((c.a : Int) < 0) = false := by simp
  have eg : decide ((c.b : Int) ≤ (c.a : Int)) = false := by simp; omega
  have eb : decide ((256 : Int) < (c.b : Int)) = false := by simp; omega
  unfold Cm.val
  have em : ((c.mode : Int) != 1) = false ∨ (((c.mode : Int) != 1) = true ∧ ((c.mode : Int) != 2) = false) := by rcases hmd with e | e <;> simp [e]
  rcases em with em1 | ⟨em1, em2⟩
  all_goals
    go_enter Tryd.func111, Tryd.ntmps111
    go_wp2_with (first
      | (go_at_call 119; refine (hcl _).mono ?_; clear hcl; rintro e w1 ⟨rfl, hw⟩; rw [hw] at HM HX x1 x5 x6 x7; clear hw
         have hl := lives_any HM.out.svc c.client
         rw [hlv] at hl)
      | (go_at_call 120; refine hl.mono ?_; clear hl; rintro e w2 ⟨rfl, hw⟩; rw [← hw]; clear hw w2
         obtain ⟨u0, r0⟩ := HM.out.r 0 (by omega)
         obtain ⟨u1, r1⟩ := HM.out.r 1 (by omega)
         obtain ⟨u2, r2⟩ := HM.out.r 2 (by omega)
         obtain ⟨u3, r3⟩ := HM.out.r 3 (by omega)
         obtain ⟨u4, r4⟩ := HM.out.r 4 (by omega)
         have p0 := HM.out.rf 0
         have p1 := HM.out.rf 1
         have p2 := HM.out.rf 2
         have p3 := HM.out.rf 3
         have p4 := HM.out.rf 4))
    obtain ⟨z0, z1, z2, z3, z4⟩ := set5_cells (B := w.heap.size + 1) (.int .i64 200) (.int .i64 0) (.slice none 0 0) (.slice none 0 0) (.slice none 0 0) HM.out.r
    refine bodyPost_ret (v := .agg #[.int .i64 200, .int .i64 0, .slice none 0 0, .slice none 0 0, .slice none 0 0]) (by simp [results, Tryd.results111, go_sem, z0, z1, z2, z3, z4]) rfl ?_
    exact HM.out.fin (by omega) _ _ _ _ _ rfl (ansv _ _ _ _ _ _ _ _ _ _ _)
set_option maxRecDepth 100000 in
set_option maxHeartbeats 4000000 in
theorem ask_e6 (h : IsSvc w b tb kb mb wv n s) (hs : s.Ok) (c : Cm) (hg : c.client < 8) (hmd : c.mode = 1 ∨ c.mode = 2) (hr : c.a < c.b) (hr2 : c.b ≤ 256) (hlv : livesB s.B c.client = true) (hcv : (s.wait.any fun o => decide (o.c = c.client)) = true) : Calls Tryd.prog 111 #[.pointer (some ⟨b, 0, none⟩), c.val] w (MPost w b tb kb mb wv n (s)) := by
  obtain ⟨wa, wc, rfl⟩ := row_lens h.row
  have hM := MB.made h c
  obtain ⟨M, hMe⟩ : ∃ M, M = ((w.alloc (.cells c.cells.toArray 36)).alloc (.cells #[.int .i64 0, .int .i64 0, .slice none 0 0, .slice none 0 0, .slice none 0 0] 111)) := ⟨_, rfl⟩
  have hz : M.heap.size = w.heap.size + 1 + 1 := by rw [hMe]; simp
  rw [← hMe] at hM
  have hA := hM.below ((Below.refl _ _).alloc (Nat.le_refl _) (.cells #[.int .i64 (c.a : Int), .int .i64 (c.b : Int), .int .i64 (c.client : Int), .int .i64 (c.mode : Int)] 57))
  have hX := HBox.made M c.hd 57
  rw [hz] at hX
  have hX' : HBox (M.alloc (.cells #[.int .i64 (c.a : Int), .int .i64 (c.b : Int), .int .i64 (c.client : Int), .int .i64 (c.mode : Int)] 57)) (w.heap.size + 1 + 1) c.hd := hX
  have hflw := h.lt
  rw [hMe] at hA hX'
  clear hX hM
  unfold Cm.cells at hA hX'
  have HM := Lib.hid hA
  have HX := Lib.hid hX'
  have Hfl := Lib.hid hflw
  have hcl := fun W => gclient_any (w := W) c.client
  have hmix : Tryd.prog.follows .mixedOrders = true := by kernel_rfl
  have x1 := hA.cb 1 _ rfl
  have x5 := hA.cb 5 _ rfl
  have x6 := hA.cb 6 _ rfl
  have x7 := hA.cb 7 _ rfl
  clear h hA hX' hflw hMe hz
  rw [decide_eq_true hg] at hcl
  have ea : decide ((c.a : Int) < 0) = false := by simp
  have eg : decide ((c.b : Int) ≤ (c.a : Int)) = false := by simp; omega
  have eb : decide ((256 : Int) < (c.b : Int)) = false := by simp; omega
  unfold Cm.val
  have em : ((c.mode : Int) != 1) = false ∨ (((c.mode : Int) != 1) = true ∧ ((c.mode : Int) != 2) = false) := by rcases hmd with e | e <;> simp [e]
  rcases em with em1 | ⟨em1, em2⟩
  all_goals
    go_enter Tryd.func111, Tryd.ntmps111
    go_wp2_with (first
      | (go_at_call 119; refine (hcl _).mono ?_; clear hcl; rintro e w1 ⟨rfl, hw⟩; rw [hw] at HM HX x1 x5 x6 x7; clear hw
         have hl := lives_any HM.out.svc c.client
         rw [hlv] at hl)
      | (go_at_call 120; refine hl.mono ?_; clear hl; rintro e w2 ⟨rfl, hw⟩; rw [← hw]; clear hw w2
         have c2 := HM.out.svc.c2
         have hco := contains_any HM.out.svc.row (by have := hs.n; show s.wait.length ≤ _; omega) 122 #[.pointer (some ⟨w.heap.size, 0, none⟩)] (fun o => decide (o.c = c.client)) (enters_of Tryd.func122 (by kernel_rfl) rfl) (fun y W _ hB => ask1_any W w.heap.size c.client ((World.cell?_of_block (a := ⟨w.heap.size, 1, none⟩) (hB.block _ (World.block_lt_of_cell? _ _ x1))).trans x1) y)
         rw [hcv] at hco)
      | (go_at_call 121; refine hco.mono ?_; clear hco; rintro e w3 ⟨rfl, hb3⟩
         have HM3 := Lib.hid (HM.out.below hb3)
         have HX3 := Lib.hid (HX.out.below hb3)
         clear HM HX x1 x5 x6 x7 c2 hb3
         have c3 := HM3.out.svc.c3
         obtain ⟨u0, r0⟩ := HM3.out.r 0 (by omega)
         obtain ⟨u1, r1⟩ := HM3.out.r 1 (by omega)
         obtain ⟨u2, r2⟩ := HM3.out.r 2 (by omega)
         obtain ⟨u3, r3⟩ := HM3.out.r 3 (by omega)
         obtain ⟨u4, r4⟩ := HM3.out.r 4 (by omega)
         have p0 := HM3.out.rf 0
         have p1 := HM3.out.rf 1
         have p2 := HM3.out.rf 2
         have p3 := HM3.out.rf 3
         have p4 := HM3.out.rf 4))
    obtain ⟨z0, z1, z2, z3, z4⟩ := set5_cells (B := w.heap.size + 1) (.int .i64 4) (.int .i64 0) (.slice none 0 0) (.slice none 0 0) (.slice none 0 0) HM3.out.r
    refine bodyPost_ret (v := .agg #[.int .i64 4, .int .i64 0, .slice none 0 0, .slice none 0 0, .slice none 0 0]) (by simp [results, Tryd.results111, go_sem, z0, z1, z2, z3, z4]) rfl ?_
    exact HM3.out.fin (by omega) _ _ _ _ _ rfl (ansv _ _ _ _ _ _ _ _ _ _ _)
set_option maxRecDepth 100000 in
set_option maxHeartbeats 4000000 in
theorem ask_e7 (h : IsSvc w b tb kb mb wv n s) (hs : s.Ok) (c : Cm) (hg : c.client < 8) (hmd : c.mode = 1 ∨ c.mode = 2) (hr : c.a < c.b) (hr2 : c.b ≤ 256) (hlv : livesB s.B c.client = true) (hcv : (s.wait.any fun o => decide (o.c = c.client)) = false) (hla : 1099511627776 ≤ s.last) : Calls Tryd.prog 111 #[.pointer (some ⟨b, 0, none⟩), c.val] w (MPost w b tb kb mb wv n (s)) := by
  obtain ⟨wa, wc, rfl⟩ := row_lens h.row
  have hM := MB.made h c
  obtain ⟨M, hMe⟩ : ∃ M, M = ((w.alloc (.cells c.cells.toArray 36)).alloc (.cells #[.int .i64 0, .int .i64 0, .slice none 0 0, .slice none 0 0, .slice none 0 0] 111)) := ⟨_, rfl⟩
  have hz : M.heap.size = w.heap.size + 1 + 1 := by rw [hMe]; simp
  rw [← hMe] at hM
  have hA := hM.below ((Below.refl _ _).alloc (Nat.le_refl _) (.cells #[.int .i64 (c.a : Int), .int .i64 (c.b : Int), .int .i64 (c.client : Int), .int .i64 (c.mode : Int)] 57))
  have hX := HBox.made M c.hd 57
  rw [hz] at hX
  have hX' : HBox (M.alloc (.cells #[.int .i64 (c.a : Int), .int .i64 (c.b : Int), .int .i64 (c.client : Int), .int .i64 (c.mode : Int)] 57)) (w.heap.size + 1 + 1) c.hd := hX
  have hflw := h.lt
  rw [hMe] at hA hX'
  clear hX hM
  unfold Cm.cells at hA hX'
  have HM := Lib.hid hA
  have HX := Lib.hid hX'
  have Hfl := Lib.hid hflw
  have hcl := fun W => gclient_any (w := W) c.client
  have hmix : Tryd.prog.follows .mixedOrders = true := by kernel_rfl
  have x1 := hA.cb 1 _ rfl
  have x5 := hA.cb 5 _ rfl
  have x6 := hA.cb 6 _ rfl
  have x7 := hA.cb 7 _ rfl
  clear h hA hX' hflw hMe hz
  rw [decide_eq_true hg] at hcl
  have ea : decide ((c.a : Int) < 0) = false := by simp
  have eg : decide ((c.b : Int) ≤ (c.a : Int)) = false := by simp; omega
  have eb : decide ((256 : Int) < (c.b : Int)) = false := by simp; omega
  have el : decide ((1099511627776 : Int) ≤ (s.last : Int)) = true := by simp; omega
  unfold Cm.val
  have em : ((c.mode : Int) != 1) = false ∨ (((c.mode : Int) != 1) = true ∧ ((c.mode : Int) != 2) = false) := by rcases hmd with e | e <;> simp [e]
  rcases em with em1 | ⟨em1, em2⟩
  all_goals
    go_enter Tryd.func111, Tryd.ntmps111
    go_wp2_with (first
      | (go_at_call 119; refine (hcl _).mono ?_; clear hcl; rintro e w1 ⟨rfl, hw⟩; rw [hw] at HM HX x1 x5 x6 x7; clear hw
         have hl := lives_any HM.out.svc c.client
         rw [hlv] at hl)
      | (go_at_call 120; refine hl.mono ?_; clear hl; rintro e w2 ⟨rfl, hw⟩; rw [← hw]; clear hw w2
         have c2 := HM.out.svc.c2
         have hco := contains_any HM.out.svc.row (by have := hs.n; show s.wait.length ≤ _; omega) 122 #[.pointer (some ⟨w.heap.size, 0, none⟩)] (fun o => decide (o.c = c.client)) (enters_of Tryd.func122 (by kernel_rfl) rfl) (fun y W _ hB => ask1_any W w.heap.size c.client ((World.cell?_of_block (a := ⟨w.heap.size, 1, none⟩) (hB.block _ (World.block_lt_of_cell? _ _ x1))).trans x1) y)
         rw [hcv] at hco)
      | (go_at_call 121; refine hco.mono ?_; clear hco; rintro e w3 ⟨rfl, hb3⟩
         have HM3 := Lib.hid (HM.out.below hb3)
         have HX3 := Lib.hid (HX.out.below hb3)
         clear HM HX x1 x5 x6 x7 c2 hb3
         have c3 := HM3.out.svc.c3
         obtain ⟨u0, r0⟩ := HM3.out.r 0 (by omega)
         obtain ⟨u1, r1⟩ := HM3.out.r 1 (by omega)
         obtain ⟨u2, r2⟩ := HM3.out.r 2 (by omega)
         obtain ⟨u3, r3⟩ := HM3.out.r 3 (by omega)
         obtain ⟨u4, r4⟩ := HM3.out.r 4 (by omega)
         have p0 := HM3.out.rf 0
         have p1 := HM3.out.rf 1
         have p2 := HM3.out.rf 2
         have p3 := HM3.out.rf 3
         have p4 := HM3.out.rf 4))
    obtain ⟨z0, z1, z2, z3, z4⟩ := set5_cells (B := w.heap.size + 1) (.int .i64 6) (.int .i64 0) (.slice none 0 0) (.slice none 0 0) (.slice none 0 0) HM3.out.r
    refine bodyPost_ret (v := .agg #[.int .i64 6, .int .i64 0, .slice none 0 0, .slice none 0 0, .slice none 0 0]) (by simp [results, Tryd.results111, go_sem, z0, z1, z2, z3, z4]) rfl ?_
    exact HM3.out.fin (by omega) _ _ _ _ _ rfl (ansv _ _ _ _ _ _ _ _ _ _ _)
set_option maxRecDepth 100000 in
set_option maxHeartbeats 4000000 in
theorem ask_yes (h : IsSvc w b tb kb mb wv n s) (hs : s.Ok) (c : Cm) (hg : c.client < 8) (hmd : c.mode = 1 ∨ c.mode = 2) (hr : c.a < c.b) (hr2 : c.b ≤ 256) (hlv : livesB s.B c.client = true) (hcv : (s.wait.any fun o => decide (o.c = c.client)) = false) (hla : s.last < 1099511627776) (hfr : freeB s.R c.hd s.wait = true) (hfi : fitsB s.R c.hd = true) : Calls Tryd.prog 111 #[.pointer (some ⟨b, 0, none⟩), c.val] w (MPost w b tb kb mb wv n (⟨putR s.R c.hd, s.B, s.wait, s.last + 1, s.by'⟩)) := by
  obtain ⟨wa, wc, rfl⟩ := row_lens h.row
  have hM := MB.made h c
  obtain ⟨M, hMe⟩ : ∃ M, M = ((w.alloc (.cells c.cells.toArray 36)).alloc (.cells #[.int .i64 0, .int .i64 0, .slice none 0 0, .slice none 0 0, .slice none 0 0] 111)) := ⟨_, rfl⟩
  have hz : M.heap.size = w.heap.size + 1 + 1 := by rw [hMe]; simp
  rw [← hMe] at hM
  have hA := hM.below ((Below.refl _ _).alloc (Nat.le_refl _) (.cells #[.int .i64 (c.a : Int), .int .i64 (c.b : Int), .int .i64 (c.client : Int), .int .i64 (c.mode : Int)] 57))
  have hX := HBox.made M c.hd 57
  rw [hz] at hX
  have hX' : HBox (M.alloc (.cells #[.int .i64 (c.a : Int), .int .i64 (c.b : Int), .int .i64 (c.client : Int), .int .i64 (c.mode : Int)] 57)) (w.heap.size + 1 + 1) c.hd := hX
  have hflw := h.lt
  rw [hMe] at hA hX'
  clear hX hM
  unfold Cm.cells at hA hX'
  have HM := Lib.hid hA
  have HX := Lib.hid hX'
  have Hfl := Lib.hid hflw
  have hcl := fun W => gclient_any (w := W) c.client
  have hmix : Tryd.prog.follows .mixedOrders = true := by kernel_rfl
  have x1 := hA.cb 1 _ rfl
  have x5 := hA.cb 5 _ rfl
  have x6 := hA.cb 6 _ rfl
  have x7 := hA.cb 7 _ rfl
  clear h hA hX' hflw hMe hz
  rw [decide_eq_true hg] at hcl
  have ea : decide ((c.a : Int) < 0) = false := by simp
  have eg : decide ((c.b : Int) ≤ (c.a : Int)) = false := by simp; omega
  have eb : decide ((256 : Int) < (c.b : Int)) = false := by simp; omega
  have el : decide ((1099511627776 : Int) ≤ (s.last : Int)) = false := by simp; omega
  unfold Cm.val
  have em : ((c.mode : Int) != 1) = false ∨ (((c.mode : Int) != 1) = true ∧ ((c.mode : Int) != 2) = false) := by rcases hmd with e | e <;> simp [e]
  rcases em with em1 | ⟨em1, em2⟩
  all_goals
    go_enter Tryd.func111, Tryd.ntmps111
    go_wp2_with (first
      | (go_at_call 119; refine (hcl _).mono ?_; clear hcl; rintro e w1 ⟨rfl, hw⟩; rw [hw] at HM HX x1 x5 x6 x7; clear hw
         have hl := lives_any HM.out.svc c.client
         rw [hlv] at hl)
      | (go_at_call 120; refine hl.mono ?_; clear hl; rintro e w2 ⟨rfl, hw⟩; rw [← hw]; clear hw w2
         have c2 := HM.out.svc.c2
         have hco := contains_any HM.out.svc.row (by have := hs.n; show s.wait.length ≤ _; omega) 122 #[.pointer (some ⟨w.heap.size, 0, none⟩)] (fun o => decide (o.c = c.client)) (enters_of Tryd.func122 (by kernel_rfl) rfl) (fun y W _ hB => ask1_any W w.heap.size c.client ((World.cell?_of_block (a := ⟨w.heap.size, 1, none⟩) (hB.block _ (World.block_lt_of_cell? _ _ x1))).trans x1) y)
         rw [hcv] at hco)
      | (go_at_call 121; refine hco.mono ?_; clear hco; rintro e w3 ⟨rfl, hb3⟩
         have HM3 := Lib.hid (HM.out.below hb3)
         have HX3 := Lib.hid (HX.out.below hb3)
         clear HM HX x1 x5 x6 x7 c2 hb3
         have c3 := HM3.out.svc.c3))
    have hgv := give_yes HM3.out.drew.svc hs c.hd ⟨hg, hmd, hr, hr2⟩ s.wait HM3.out.drew.svc.row (by have := hs.n; show s.wait.length ≤ _; omega) hfr hfi hla
    rw [show (c.hd).val = .agg #[.int .i64 (c.a : Int), .int .i64 (c.b : Int), .int .i64 (c.client : Int), .int .i64 (c.mode : Int)] from rfl] at hgv
    generalize ((s.last + 1 : Nat) : Int) = N at hgv
    refine wp_region_held_drew (S := fun W => W.cell? ⟨b, 2, none⟩ = some (.slice wa s.wait.length wc) ∧ HBox W (w.heap.size + 1 + 1) c.hd) hmix ⟨HM3.out.drew.svc.c2, HX3.out.keep rfl⟩ (fun hHeld => ?_)
    refine wpAnyH_take (i := 0) (oi := ⟨_, _, _, _, _, _⟩) (v := .pointer (some ⟨b, 0, none⟩)) rfl (by kernel_rfl) (by kernel_rfl) (by kernel_rfl) (fun _ _ _ h => h) (Or.inl ⟨by rfl, fun _ _ => rfl⟩) hHeld ?_
    try simp only [Act.put, List.setIfInBounds_toArray, List.set_cons_zero, List.set_cons_succ]
    refine wpAnyH_take (i := 1) (oi := ⟨_, _, _, _, _, _⟩) (v := .agg #[.int .i64 (c.a : Int), .int .i64 (c.b : Int), .int .i64 (c.client : Int), .int .i64 (c.mode : Int)]) rfl (by kernel_rfl) (by kernel_rfl) (by kernel_rfl) (fun _ _ _ h => h) (Or.inl ⟨by rfl, fun W hW => by have g0 := hW.2.a; have g1 := hW.2.b; have g2 := hW.2.c; have g3 := hW.2.m; dsimp only [Cm.hd] at g0 g1 g2 g3; go_simp⟩) hHeld ?_
    try simp only [Act.put, List.setIfInBounds_toArray, List.set_cons_zero, List.set_cons_succ]
    refine wpAnyH_take (i := 2) (oi := ⟨_, _, _, _, _, _⟩) (v := .pointer (some ⟨b, 0, none⟩)) rfl (by kernel_rfl) (by kernel_rfl) (by kernel_rfl) (fun _ _ _ h => h) (Or.inl ⟨by rfl, fun _ _ => rfl⟩) hHeld ?_
    try simp only [Act.put, List.setIfInBounds_toArray, List.set_cons_zero, List.set_cons_succ]
    refine wpAnyH_take (i := 3) (oi := ⟨_, _, _, _, _, _⟩) (v := .pointer (some ⟨b, 0, none⟩)) rfl (by kernel_rfl) (by kernel_rfl) (by kernel_rfl) (fun _ _ _ h => h) (Or.inl ⟨by rfl, fun _ _ => by go_simp⟩) hHeld ?_
    try simp only [Act.put, List.setIfInBounds_toArray, List.set_cons_zero, List.set_cons_succ]
    refine wpAnyH_take (i := 4) (oi := ⟨_, _, _, _, _, _⟩) (v := .pointer (some ⟨b, 2, none⟩)) rfl (by kernel_rfl) (by kernel_rfl) (by kernel_rfl) (fun _ _ _ h => h) (Or.inl ⟨by rfl, fun _ _ => by go_simp⟩) hHeld ?_
    try simp only [Act.put, List.setIfInBounds_toArray, List.set_cons_zero, List.set_cons_succ]
    refine wpAnyH_take (i := 5) (oi := ⟨_, _, _, _, _, _⟩) (v := .slice wa s.wait.length wc) rfl (by kernel_rfl) (by kernel_rfl) (by kernel_rfl) (fun _ _ _ h => h) (Or.inl ⟨by rfl, fun W hW => by have h2 := hW.1; go_simp⟩) hHeld ?_
    try simp only [Act.put, List.setIfInBounds_toArray, List.set_cons_zero, List.set_cons_succ]
    refine wpAnyH_ready (rs := [6]) (by kernel_rfl) (by simp) (AllReadyH.cons (o := ⟨_, _, _, _, _, _⟩) rfl (fun K hK => ?_) AllReadyH.nil)
    rw [if_pos (by rfl)]
    go_simp
    refine hgv.mono ?_
    clear hgv
    rintro e w4 ⟨rfl, hs4, hm4⟩
    have HM4 := Lib.hid (HM3.out.drew.next hs4 hm4 (fun k hk => by rcases hk with hk | hk; exact .inl (.inr (.inl hk)); exact .inl (.inl hk)) HM3.out.ow)
    have HX4 := Lib.hid ((HX3.out.keep (w' := w3.drew) rfl).keep (hm4.block _ HX3.out.lt (by have q1 := Hfl.out b (.inl rfl); have q2 := Hfl.out tb (.inr (.inl rfl)); omega)))
    clear hs4 hm4
    refine hK.out _ _ ⟨HM4.out.svc.c2, HX4.out⟩ (fun hHeld => ?_)
    clear hK K HM3 HX3 c3
    try simp only [Act.put, List.setIfInBounds_toArray, List.set_cons_zero, List.set_cons_succ]
    refine wpAnyH_take (i := 7) (oi := ⟨_, _, _, _, _, _⟩) (v := .tuple #[.int .i64 N, .int .i64 0, .bool false]) rfl (by kernel_rfl) (by kernel_rfl) (by kernel_rfl) (fun _ _ _ h => h) (Or.inl ⟨by rfl, fun _ _ => rfl⟩) hHeld ?_
    try simp only [Act.put, List.setIfInBounds_toArray, List.set_cons_zero, List.set_cons_succ]
    refine wpAnyH_take (i := 8) (oi := ⟨_, _, _, _, _, _⟩) (v := .int .i64 N) rfl (by kernel_rfl) (by kernel_rfl) (by kernel_rfl) (fun _ _ _ h => h) (Or.inl ⟨by rfl, fun _ _ => by go_simp⟩) hHeld ?_
    try simp only [Act.put, List.setIfInBounds_toArray, List.set_cons_zero, List.set_cons_succ]
    refine wpAnyH_take (i := 9) (oi := ⟨_, _, _, _, _, _⟩) (v := .int .i64 0) rfl (by kernel_rfl) (by kernel_rfl) (by kernel_rfl) (fun _ _ _ h => h) (Or.inl ⟨by rfl, fun _ _ => by go_simp⟩) hHeld ?_
    try simp only [Act.put, List.setIfInBounds_toArray, List.set_cons_zero, List.set_cons_succ]
    refine wpAnyH_take (i := 10) (oi := ⟨_, _, _, _, _, _⟩) (v := .bool false) rfl (by kernel_rfl) (by kernel_rfl) (by kernel_rfl) (fun _ _ _ h => h) (Or.inl ⟨by rfl, fun _ _ => by go_simp⟩) hHeld ?_
    try simp only [Act.put, List.setIfInBounds_toArray, List.set_cons_zero, List.set_cons_succ]
    refine wpAnyH_take (i := 11) (oi := ⟨_, _, _, _, _, _⟩) (v := .int .i64 N) rfl (by kernel_rfl) (by kernel_rfl) (by kernel_rfl) (fun _ _ _ h => h) (Or.inl ⟨by rfl, fun _ _ => rfl⟩) hHeld ?_
    try simp only [Act.put, List.setIfInBounds_toArray, List.set_cons_zero, List.set_cons_succ]
    refine wpAnyH_take (i := 12) (oi := ⟨_, _, _, _, _, _⟩) (v := .int .i64 0) rfl (by kernel_rfl) (by kernel_rfl) (by kernel_rfl) (fun _ _ _ h => h) (Or.inl ⟨by rfl, fun _ _ => rfl⟩) hHeld ?_
    try simp only [Act.put, List.setIfInBounds_toArray, List.set_cons_zero, List.set_cons_succ]
    refine wpAnyH_take (i := 13) (oi := ⟨_, _, _, _, _, _⟩) (v := .bool false) rfl (by kernel_rfl) (by kernel_rfl) (by kernel_rfl) (fun _ _ _ h => h) (Or.inl ⟨by rfl, fun _ _ => rfl⟩) hHeld ?_
    try simp only [Act.put, List.setIfInBounds_toArray, List.set_cons_zero, List.set_cons_succ]
    refine wpAnyH_done (by kernel_rfl) ?_ _
    clear hHeld
    obtain ⟨u0, r0⟩ := HM4.out.r 0 (by omega)
    obtain ⟨u1, r1⟩ := HM4.out.r 1 (by omega)
    obtain ⟨u2, r2⟩ := HM4.out.r 2 (by omega)
    obtain ⟨u3, r3⟩ := HM4.out.r 3 (by omega)
    obtain ⟨u4, r4⟩ := HM4.out.r 4 (by omega)
    have p0 := HM4.out.rf 0
    have p1 := HM4.out.rf 1
    have p2 := HM4.out.rf 2
    have p3 := HM4.out.rf 3
    have p4 := HM4.out.rf 4
    go_wp2_with fail
    obtain ⟨z0, z1, z2, z3, z4⟩ := set5_cells (B := w.heap.size + 1) (.int .i64 0) (.int .i64 N) (.slice none 0 0) (.slice none 0 0) (.slice none 0 0) HM4.out.r
    refine bodyPost_ret (v := .agg #[.int .i64 0, .int .i64 N, .slice none 0 0, .slice none 0 0, .slice none 0 0]) (by simp [results, Tryd.results111, go_sem, z0, z1, z2, z3, z4]) rfl ?_
    exact HM4.out.fin (by omega) _ _ _ _ _ rfl (ansv _ _ _ _ _ _ _ _ _ _ _)
set_option maxRecDepth 100000 in
set_option maxHeartbeats 4000000 in
theorem ask_full (h : IsSvc w b tb kb mb wv n s) (hs : s.Ok) (c : Cm) (hg : c.client < 8) (hmd : c.mode = 1 ∨ c.mode = 2) (hr : c.a < c.b) (hr2 : c.b ≤ 256) (hlv : livesB s.B c.client = true) (hcv : (s.wait.any fun o => decide (o.c = c.client)) = false) (hla : s.last < 1099511627776) (hfr : freeB s.R c.hd s.wait = true) (hfi : fitsB s.R c.hd = false) : Calls Tryd.prog 111 #[.pointer (some ⟨b, 0, none⟩), c.val] w (MPost w b tb kb mb wv n (s)) := by
  obtain ⟨wa, wc, rfl⟩ := row_lens h.row
  have hM := MB.made h c
  obtain ⟨M, hMe⟩ : ∃ M, M = ((w.alloc (.cells c.cells.toArray 36)).alloc (.cells #[.int .i64 0, .int .i64 0, .slice none 0 0, .slice none 0 0, .slice none 0 0] 111)) := ⟨_, rfl⟩
  have hz : M.heap.size = w.heap.size + 1 + 1 := by rw [hMe]; simp
  rw [← hMe] at hM
  have hA := hM.below ((Below.refl _ _).alloc (Nat.le_refl _) (.cells #[.int .i64 (c.a : Int), .int .i64 (c.b : Int), .int .i64 (c.client : Int), .int .i64 (c.mode : Int)] 57))
  have hX := HBox.made M c.hd 57
  rw [hz] at hX
  have hX' : HBox (M.alloc (.cells #[.int .i64 (c.a : Int), .int .i64 (c.b : Int), .int .i64 (c.client : Int), .int .i64 (c.mode : Int)] 57)) (w.heap.size + 1 + 1) c.hd := hX
  have hflw := h.lt
  rw [hMe] at hA hX'
  clear hX hM
  unfold Cm.cells at hA hX'
  have HM := Lib.hid hA
  have HX := Lib.hid hX'
  have Hfl := Lib.hid hflw
  have hcl := fun W => gclient_any (w := W) c.client
  have hmix : Tryd.prog.follows .mixedOrders = true := by kernel_rfl
  have x1 := hA.cb 1 _ rfl
  have x5 := hA.cb 5 _ rfl
  have x6 := hA.cb 6 _ rfl
  have x7 := hA.cb 7 _ rfl
  clear h hA hX' hflw hMe hz
  rw [decide_eq_true hg] at hcl
  have ea : decide ((c.a : Int) < 0) = false := by simp
  have eg : decide ((c.b : Int) ≤ (c.a : Int)) = false := by simp; omega
  have eb : decide ((256 : Int) < (c.b : Int)) = false := by simp; omega
  have el : decide ((1099511627776 : Int) ≤ (s.last : Int)) = false := by simp; omega
  unfold Cm.val
  have em : ((c.mode : Int) != 1) = false ∨ (((c.mode : Int) != 1) = true ∧ ((c.mode : Int) != 2) = false) := by rcases hmd with e | e <;> simp [e]
  rcases em with em1 | ⟨em1, em2⟩
  all_goals
    go_enter Tryd.func111, Tryd.ntmps111
    go_wp2_with (first
      | (go_at_call 119; refine (hcl _).mono ?_; clear hcl; rintro e w1 ⟨rfl, hw⟩; rw [hw] at HM HX x1 x5 x6 x7; clear hw
         have hl := lives_any HM.out.svc c.client
         rw [hlv] at hl)
      | (go_at_call 120; refine hl.mono ?_; clear hl; rintro e w2 ⟨rfl, hw⟩; rw [← hw]; clear hw w2
         have c2 := HM.out.svc.c2
         have hco := contains_any HM.out.svc.row (by have := hs.n; show s.wait.length ≤ _; omega) 122 #[.pointer (some ⟨w.heap.size, 0, none⟩)] (fun o => decide (o.c = c.client)) (enters_of Tryd.func122 (by kernel_rfl) rfl) (fun y W _ hB => ask1_any W w.heap.size c.client ((World.cell?_of_block (a := ⟨w.heap.size, 1, none⟩) (hB.block _ (World.block_lt_of_cell? _ _ x1))).trans x1) y)
         rw [hcv] at hco)
      | (go_at_call 121; refine hco.mono ?_; clear hco; rintro e w3 ⟨rfl, hb3⟩
         have HM3 := Lib.hid (HM.out.below hb3)
         have HX3 := Lib.hid (HX.out.below hb3)
         clear HM HX x1 x5 x6 x7 c2 hb3
         have c3 := HM3.out.svc.c3))
    have hgv := give_full HM3.out.drew.svc hs c.hd ⟨hg, hmd, hr, hr2⟩ s.wait HM3.out.drew.svc.row (by have := hs.n; show s.wait.length ≤ _; omega) hfr hfi
    rw [show (c.hd).val = .agg #[.int .i64 (c.a : Int), .int .i64 (c.b : Int), .int .i64 (c.client : Int), .int .i64 (c.mode : Int)] from rfl] at hgv
    refine wp_region_held_drew (S := fun W => W.cell? ⟨b, 2, none⟩ = some (.slice wa s.wait.length wc) ∧ HBox W (w.heap.size + 1 + 1) c.hd) hmix ⟨HM3.out.drew.svc.c2, HX3.out.keep rfl⟩ (fun hHeld => ?_)
    refine wpAnyH_take (i := 0) (oi := ⟨_, _, _, _, _, _⟩) (v := .pointer (some ⟨b, 0, none⟩)) rfl (by kernel_rfl) (by kernel_rfl) (by kernel_rfl) (fun _ _ _ h => h) (Or.inl ⟨by rfl, fun _ _ => rfl⟩) hHeld ?_
    try simp only [Act.put, List.setIfInBounds_toArray, List.set_cons_zero, List.set_cons_succ]
    refine wpAnyH_take (i := 1) (oi := ⟨_, _, _, _, _, _⟩) (v := .agg #[.int .i64 (c.a : Int), .int .i64 (c.b : Int), .int .i64 (c.client : Int), .int .i64 (c.mode : Int)]) rfl (by kernel_rfl) (by kernel_rfl) (by kernel_rfl) (fun _ _ _ h => h) (Or.inl ⟨by rfl, fun W hW => by have g0 := hW.2.a; have g1 := hW.2.b; have g2 := hW.2.c; have g3 := hW.2.m; dsimp only [Cm.hd] at g0 g1 g2 g3; go_simp⟩) hHeld ?_
    try simp only [Act.put, List.setIfInBounds_toArray, List.set_cons_zero, List.set_cons_succ]
    refine wpAnyH_take (i := 2) (oi := ⟨_, _, _, _, _, _⟩) (v := .pointer (some ⟨b, 0, none⟩)) rfl (by kernel_rfl) (by kernel_rfl) (by kernel_rfl) (fun _ _ _ h => h) (Or.inl ⟨by rfl, fun _ _ => rfl⟩) hHeld ?_
    try simp only [Act.put, List.setIfInBounds_toArray, List.set_cons_zero, List.set_cons_succ]
    refine wpAnyH_take (i := 3) (oi := ⟨_, _, _, _, _, _⟩) (v := .pointer (some ⟨b, 0, none⟩)) rfl (by kernel_rfl) (by kernel_rfl) (by kernel_rfl) (fun _ _ _ h => h) (Or.inl ⟨by rfl, fun _ _ => by go_simp⟩) hHeld ?_
    try simp only [Act.put, List.setIfInBounds_toArray, List.set_cons_zero, List.set_cons_succ]
    refine wpAnyH_take (i := 4) (oi := ⟨_, _, _, _, _, _⟩) (v := .pointer (some ⟨b, 2, none⟩)) rfl (by kernel_rfl) (by kernel_rfl) (by kernel_rfl) (fun _ _ _ h => h) (Or.inl ⟨by rfl, fun _ _ => by go_simp⟩) hHeld ?_
    try simp only [Act.put, List.setIfInBounds_toArray, List.set_cons_zero, List.set_cons_succ]
    refine wpAnyH_take (i := 5) (oi := ⟨_, _, _, _, _, _⟩) (v := .slice wa s.wait.length wc) rfl (by kernel_rfl) (by kernel_rfl) (by kernel_rfl) (fun _ _ _ h => h) (Or.inl ⟨by rfl, fun W hW => by have h2 := hW.1; go_simp⟩) hHeld ?_
    try simp only [Act.put, List.setIfInBounds_toArray, List.set_cons_zero, List.set_cons_succ]
    refine wpAnyH_ready (rs := [6]) (by kernel_rfl) (by simp) (AllReadyH.cons (o := ⟨_, _, _, _, _, _⟩) rfl (fun K hK => ?_) AllReadyH.nil)
    rw [if_pos (by rfl)]
    go_simp
    refine hgv.mono ?_
    clear hgv
    rintro e w4 ⟨rfl, hs4, hm4⟩
    have HM4 := Lib.hid (HM3.out.drew.next hs4 hm4 (fun k hk => by rcases hk with hk | hk; exact .inl (.inr (.inl hk)); exact .inl (.inl hk)) HM3.out.ow)
    have HX4 := Lib.hid ((HX3.out.keep (w' := w3.drew) rfl).keep (hm4.block _ HX3.out.lt (by have q1 := Hfl.out b (.inl rfl); have q2 := Hfl.out tb (.inr (.inl rfl)); omega)))
    clear hs4 hm4
    refine hK.out _ _ ⟨HM4.out.svc.c2, HX4.out⟩ (fun hHeld => ?_)
    clear hK K HM3 HX3 c3
    try simp only [Act.put, List.setIfInBounds_toArray, List.set_cons_zero, List.set_cons_succ]
    refine wpAnyH_take (i := 7) (oi := ⟨_, _, _, _, _, _⟩) (v := .tuple #[.int .i64 0, .int .i64 2, .bool false]) rfl (by kernel_rfl) (by kernel_rfl) (by kernel_rfl) (fun _ _ _ h => h) (Or.inl ⟨by rfl, fun _ _ => rfl⟩) hHeld ?_
    try simp only [Act.put, List.setIfInBounds_toArray, List.set_cons_zero, List.set_cons_succ]
    refine wpAnyH_take (i := 8) (oi := ⟨_, _, _, _, _, _⟩) (v := .int .i64 0) rfl (by kernel_rfl) (by kernel_rfl) (by kernel_rfl) (fun _ _ _ h => h) (Or.inl ⟨by rfl, fun _ _ => by go_simp⟩) hHeld ?_
    try simp only [Act.put, List.setIfInBounds_toArray, List.set_cons_zero, List.set_cons_succ]
    refine wpAnyH_take (i := 9) (oi := ⟨_, _, _, _, _, _⟩) (v := .int .i64 2) rfl (by kernel_rfl) (by kernel_rfl) (by kernel_rfl) (fun _ _ _ h => h) (Or.inl ⟨by rfl, fun _ _ => by go_simp⟩) hHeld ?_
    try simp only [Act.put, List.setIfInBounds_toArray, List.set_cons_zero, List.set_cons_succ]
    refine wpAnyH_take (i := 10) (oi := ⟨_, _, _, _, _, _⟩) (v := .bool false) rfl (by kernel_rfl) (by kernel_rfl) (by kernel_rfl) (fun _ _ _ h => h) (Or.inl ⟨by rfl, fun _ _ => by go_simp⟩) hHeld ?_
    try simp only [Act.put, List.setIfInBounds_toArray, List.set_cons_zero, List.set_cons_succ]
    refine wpAnyH_take (i := 11) (oi := ⟨_, _, _, _, _, _⟩) (v := .int .i64 0) rfl (by kernel_rfl) (by kernel_rfl) (by kernel_rfl) (fun _ _ _ h => h) (Or.inl ⟨by rfl, fun _ _ => rfl⟩) hHeld ?_
    try simp only [Act.put, List.setIfInBounds_toArray, List.set_cons_zero, List.set_cons_succ]
    refine wpAnyH_take (i := 12) (oi := ⟨_, _, _, _, _, _⟩) (v := .int .i64 2) rfl (by kernel_rfl) (by kernel_rfl) (by kernel_rfl) (fun _ _ _ h => h) (Or.inl ⟨by rfl, fun _ _ => rfl⟩) hHeld ?_
    try simp only [Act.put, List.setIfInBounds_toArray, List.set_cons_zero, List.set_cons_succ]
    refine wpAnyH_take (i := 13) (oi := ⟨_, _, _, _, _, _⟩) (v := .bool false) rfl (by kernel_rfl) (by kernel_rfl) (by kernel_rfl) (fun _ _ _ h => h) (Or.inl ⟨by rfl, fun _ _ => rfl⟩) hHeld ?_
    try simp only [Act.put, List.setIfInBounds_toArray, List.set_cons_zero, List.set_cons_succ]
    refine wpAnyH_done (by kernel_rfl) ?_ _
    clear hHeld
    obtain ⟨u0, r0⟩ := HM4.out.r 0 (by omega)
    obtain ⟨u1, r1⟩ := HM4.out.r 1 (by omega)
    obtain ⟨u2, r2⟩ := HM4.out.r 2 (by omega)
    obtain ⟨u3, r3⟩ := HM4.out.r 3 (by omega)
    obtain ⟨u4, r4⟩ := HM4.out.r 4 (by omega)
    have p0 := HM4.out.rf 0
    have p1 := HM4.out.rf 1
    have p2 := HM4.out.rf 2
    have p3 := HM4.out.rf 3
    have p4 := HM4.out.rf 4
    go_wp2_with fail
    obtain ⟨z0, z1, z2, z3, z4⟩ := set5_cells (B := w.heap.size + 1) (.int .i64 2) (.int .i64 0) (.slice none 0 0) (.slice none 0 0) (.slice none 0 0) HM4.out.r
    refine bodyPost_ret (v := .agg #[.int .i64 2, .int .i64 0, .slice none 0 0, .slice none 0 0, .slice none 0 0]) (by simp [results, Tryd.results111, go_sem, z0, z1, z2, z3, z4]) rfl ?_
    exact HM4.out.fin (by omega) _ _ _ _ _ rfl (ansv _ _ _ _ _ _ _ _ _ _ _)
set_option maxRecDepth 100000 in
set_option maxHeartbeats 4000000 in
theorem ask_many (h : IsSvc w b tb kb mb wv n s) (hs : s.Ok) (c : Cm) (hg : c.client < 8) (hmd : c.mode = 1 ∨ c.mode = 2) (hr : c.a < c.b) (hr2 : c.b ≤ 256) (hlv : livesB s.B c.client = true) (hcv : (s.wait.any fun o => decide (o.c = c.client)) = false) (hla : s.last < 1099511627776) (hfr : freeB s.R c.hd s.wait = false) (hw32 : 32 ≤ s.wait.length) : Calls Tryd.prog 111 #[.pointer (some ⟨b, 0, none⟩), c.val] w (MPost w b tb kb mb wv n (s)) := by
  obtain ⟨wa, wc, rfl⟩ := row_lens h.row
  have hM := MB.made h c
  obtain ⟨M, hMe⟩ : ∃ M, M = ((w.alloc (.cells c.cells.toArray 36)).alloc (.cells #[.int .i64 0, .int .i64 0, .slice none 0 0, .slice none 0 0, .slice none 0 0] 111)) := ⟨_, rfl⟩
  have hz : M.heap.size = w.heap.size + 1 + 1 := by rw [hMe]; simp
  rw [← hMe] at hM
  have hA := hM.below ((Below.refl _ _).alloc (Nat.le_refl _) (.cells #[.int .i64 (c.a : Int), .int .i64 (c.b : Int), .int .i64 (c.client : Int), .int .i64 (c.mode : Int)] 57))
  have hX := HBox.made M c.hd 57
  rw [hz] at hX
  have hX' : HBox (M.alloc (.cells #[.int .i64 (c.a : Int), .int .i64 (c.b : Int), .int .i64 (c.client : Int), .int .i64 (c.mode : Int)] 57)) (w.heap.size + 1 + 1) c.hd := hX
  have hflw := h.lt
  rw [hMe] at hA hX'
  clear hX hM
  unfold Cm.cells at hA hX'
  have HM := Lib.hid hA
  have HX := Lib.hid hX'
  have Hfl := Lib.hid hflw
  have hcl := fun W => gclient_any (w := W) c.client
  have hmix : Tryd.prog.follows .mixedOrders = true := by kernel_rfl
  have x1 := hA.cb 1 _ rfl
  have x5 := hA.cb 5 _ rfl
  have x6 := hA.cb 6 _ rfl
  have x7 := hA.cb 7 _ rfl
  clear h hA hX' hflw hMe hz
  rw [decide_eq_true hg] at hcl
  have ea : decide ((c.a : Int) < 0) = false := by simp
  have eg : decide ((c.b : Int) ≤ (c.a : Int)) = false := by simp; omega
  have eb : decide ((256 : Int) < (c.b : Int)) = false := by simp; omega
  have el : decide ((1099511627776 : Int) ≤ (s.last : Int)) = false := by simp; omega
  have e32 : decide ((32 : Int) ≤ (s.wait.length : Int)) = true := by simp; omega
  unfold Cm.val
  have em : ((c.mode : Int) != 1) = false ∨ (((c.mode : Int) != 1) = true ∧ ((c.mode : Int) != 2) = false) := by rcases hmd with e | e <;> simp [e]
  rcases em with em1 | ⟨em1, em2⟩
  all_goals
    go_enter Tryd.func111, Tryd.ntmps111
    go_wp2_with (first
      | (go_at_call 119; refine (hcl _).mono ?_; clear hcl; rintro e w1 ⟨rfl, hw⟩; rw [hw] at HM HX x1 x5 x6 x7; clear hw
         have hl := lives_any HM.out.svc c.client
         rw [hlv] at hl)
      | (go_at_call 120; refine hl.mono ?_; clear hl; rintro e w2 ⟨rfl, hw⟩; rw [← hw]; clear hw w2
         have c2 := HM.out.svc.c2
         have hco := contains_any HM.out.svc.row (by have := hs.n; show s.wait.length ≤ _; omega) 122 #[.pointer (some ⟨w.heap.size, 0, none⟩)] (fun o => decide (o.c = c.client)) (enters_of Tryd.func122 (by kernel_rfl) rfl) (fun y W _ hB => ask1_any W w.heap.size c.client ((World.cell?_of_block (a := ⟨w.heap.size, 1, none⟩) (hB.block _ (World.block_lt_of_cell? _ _ x1))).trans x1) y)
         rw [hcv] at hco)
      | (go_at_call 121; refine hco.mono ?_; clear hco; rintro e w3 ⟨rfl, hb3⟩
         have HM3 := Lib.hid (HM.out.below hb3)
         have HX3 := Lib.hid (HX.out.below hb3)
         clear HM HX x1 x5 x6 x7 c2 hb3
         have c3 := HM3.out.svc.c3))
    have hgv := give_no HM3.out.drew.svc hs c.hd s.wait HM3.out.drew.svc.row (by have := hs.n; show s.wait.length ≤ _; omega) hfr
    rw [show (c.hd).val = .agg #[.int .i64 (c.a : Int), .int .i64 (c.b : Int), .int .i64 (c.client : Int), .int .i64 (c.mode : Int)] from rfl] at hgv
    refine wp_region_held_drew (S := fun W => W.cell? ⟨b, 2, none⟩ = some (.slice wa s.wait.length wc) ∧ HBox W (w.heap.size + 1 + 1) c.hd) hmix ⟨HM3.out.drew.svc.c2, HX3.out.keep rfl⟩ (fun hHeld => ?_)
    refine wpAnyH_take (i := 0) (oi := ⟨_, _, _, _, _, _⟩) (v := .pointer (some ⟨b, 0, none⟩)) rfl (by kernel_rfl) (by kernel_rfl) (by kernel_rfl) (fun _ _ _ h => h) (Or.inl ⟨by rfl, fun _ _ => rfl⟩) hHeld ?_
    try simp only [Act.put, List.setIfInBounds_toArray, List.set_cons_zero, List.set_cons_succ]
    refine wpAnyH_take (i := 1) (oi := ⟨_, _, _, _, _, _⟩) (v := .agg #[.int .i64 (c.a : Int), .int .i64 (c.b : Int), .int .i64 (c.client : Int), .int .i64 (c.mode : Int)]) rfl (by kernel_rfl) (by kernel_rfl) (by kernel_rfl) (fun _ _ _ h => h) (Or.inl ⟨by rfl, fun W hW => by have g0 := hW.2.a; have g1 := hW.2.b; have g2 := hW.2.c; have g3 := hW.2.m; dsimp only [Cm.hd] at g0 g1 g2 g3; go_simp⟩) hHeld ?_
    try simp only [Act.put, List.setIfInBounds_toArray, List.set_cons_zero, List.set_cons_succ]
    refine wpAnyH_take (i := 2) (oi := ⟨_, _, _, _, _, _⟩) (v := .pointer (some ⟨b, 0, none⟩)) rfl (by kernel_rfl) (by kernel_rfl) (by kernel_rfl) (fun _ _ _ h => h) (Or.inl ⟨by rfl, fun _ _ => rfl⟩) hHeld ?_
    try simp only [Act.put, List.setIfInBounds_toArray, List.set_cons_zero, List.set_cons_succ]
    refine wpAnyH_take (i := 3) (oi := ⟨_, _, _, _, _, _⟩) (v := .pointer (some ⟨b, 0, none⟩)) rfl (by kernel_rfl) (by kernel_rfl) (by kernel_rfl) (fun _ _ _ h => h) (Or.inl ⟨by rfl, fun _ _ => by go_simp⟩) hHeld ?_
    try simp only [Act.put, List.setIfInBounds_toArray, List.set_cons_zero, List.set_cons_succ]
    refine wpAnyH_take (i := 4) (oi := ⟨_, _, _, _, _, _⟩) (v := .pointer (some ⟨b, 2, none⟩)) rfl (by kernel_rfl) (by kernel_rfl) (by kernel_rfl) (fun _ _ _ h => h) (Or.inl ⟨by rfl, fun _ _ => by go_simp⟩) hHeld ?_
    try simp only [Act.put, List.setIfInBounds_toArray, List.set_cons_zero, List.set_cons_succ]
    refine wpAnyH_take (i := 5) (oi := ⟨_, _, _, _, _, _⟩) (v := .slice wa s.wait.length wc) rfl (by kernel_rfl) (by kernel_rfl) (by kernel_rfl) (fun _ _ _ h => h) (Or.inl ⟨by rfl, fun W hW => by have h2 := hW.1; go_simp⟩) hHeld ?_
    try simp only [Act.put, List.setIfInBounds_toArray, List.set_cons_zero, List.set_cons_succ]
    refine wpAnyH_ready (rs := [6]) (by kernel_rfl) (by simp) (AllReadyH.cons (o := ⟨_, _, _, _, _, _⟩) rfl (fun K hK => ?_) AllReadyH.nil)
    rw [if_pos (by rfl)]
    go_simp
    refine hgv.mono ?_
    clear hgv
    rintro e w4 ⟨rfl, hb4⟩
    have HM4 := Lib.hid (HM3.out.drew.below hb4)
    have HX4 := Lib.hid ((HX3.out.keep (w' := w3.drew) rfl).below hb4)
    clear hb4
    refine hK.out _ _ ⟨HM4.out.svc.c2, HX4.out⟩ (fun hHeld => ?_)
    clear hK K HM3 HX3 c3
    try simp only [Act.put, List.setIfInBounds_toArray, List.set_cons_zero, List.set_cons_succ]
    refine wpAnyH_take (i := 7) (oi := ⟨_, _, _, _, _, _⟩) (v := .tuple #[.int .i64 0, .int .i64 0, .bool true]) rfl (by kernel_rfl) (by kernel_rfl) (by kernel_rfl) (fun _ _ _ h => h) (Or.inl ⟨by rfl, fun _ _ => rfl⟩) hHeld ?_
    try simp only [Act.put, List.setIfInBounds_toArray, List.set_cons_zero, List.set_cons_succ]
    refine wpAnyH_take (i := 8) (oi := ⟨_, _, _, _, _, _⟩) (v := .int .i64 0) rfl (by kernel_rfl) (by kernel_rfl) (by kernel_rfl) (fun _ _ _ h => h) (Or.inl ⟨by rfl, fun _ _ => by go_simp⟩) hHeld ?_
    try simp only [Act.put, List.setIfInBounds_toArray, List.set_cons_zero, List.set_cons_succ]
    refine wpAnyH_take (i := 9) (oi := ⟨_, _, _, _, _, _⟩) (v := .int .i64 0) rfl (by kernel_rfl) (by kernel_rfl) (by kernel_rfl) (fun _ _ _ h => h) (Or.inl ⟨by rfl, fun _ _ => by go_simp⟩) hHeld ?_
    try simp only [Act.put, List.setIfInBounds_toArray, List.set_cons_zero, List.set_cons_succ]
    refine wpAnyH_take (i := 10) (oi := ⟨_, _, _, _, _, _⟩) (v := .bool true) rfl (by kernel_rfl) (by kernel_rfl) (by kernel_rfl) (fun _ _ _ h => h) (Or.inl ⟨by rfl, fun _ _ => by go_simp⟩) hHeld ?_
    try simp only [Act.put, List.setIfInBounds_toArray, List.set_cons_zero, List.set_cons_succ]
    refine wpAnyH_take (i := 11) (oi := ⟨_, _, _, _, _, _⟩) (v := .int .i64 0) rfl (by kernel_rfl) (by kernel_rfl) (by kernel_rfl) (fun _ _ _ h => h) (Or.inl ⟨by rfl, fun _ _ => rfl⟩) hHeld ?_
    try simp only [Act.put, List.setIfInBounds_toArray, List.set_cons_zero, List.set_cons_succ]
    refine wpAnyH_take (i := 12) (oi := ⟨_, _, _, _, _, _⟩) (v := .int .i64 0) rfl (by kernel_rfl) (by kernel_rfl) (by kernel_rfl) (fun _ _ _ h => h) (Or.inl ⟨by rfl, fun _ _ => rfl⟩) hHeld ?_
    try simp only [Act.put, List.setIfInBounds_toArray, List.set_cons_zero, List.set_cons_succ]
    refine wpAnyH_take (i := 13) (oi := ⟨_, _, _, _, _, _⟩) (v := .bool true) rfl (by kernel_rfl) (by kernel_rfl) (by kernel_rfl) (fun _ _ _ h => h) (Or.inl ⟨by rfl, fun _ _ => rfl⟩) hHeld ?_
    try simp only [Act.put, List.setIfInBounds_toArray, List.set_cons_zero, List.set_cons_succ]
    refine wpAnyH_done (by kernel_rfl) ?_ _
    clear hHeld
    obtain ⟨u0, r0⟩ := HM4.out.r 0 (by omega)
    obtain ⟨u1, r1⟩ := HM4.out.r 1 (by omega)
    obtain ⟨u2, r2⟩ := HM4.out.r 2 (by omega)
    obtain ⟨u3, r3⟩ := HM4.out.r 3 (by omega)
    obtain ⟨u4, r4⟩ := HM4.out.r 4 (by omega)
    have p0 := HM4.out.rf 0
    have p1 := HM4.out.rf 1
    have p2 := HM4.out.rf 2
    have p3 := HM4.out.rf 3
    have p4 := HM4.out.rf 4
    have c2 := HM4.out.svc.c2
    go_wp2_with fail
    obtain ⟨z0, z1, z2, z3, z4⟩ := set5_cells (B := w.heap.size + 1) (.int .i64 2) (.int .i64 0) (.slice none 0 0) (.slice none 0 0) (.slice none 0 0) HM4.out.r
    refine bodyPost_ret (v := .agg #[.int .i64 2, .int .i64 0, .slice none 0 0, .slice none 0 0, .slice none 0 0]) (by simp [results, Tryd.results111, go_sem, z0, z1, z2, z3, z4]) rfl ?_
    exact HM4.out.fin (by omega) _ _ _ _ _ rfl (ansv _ _ _ _ _ _ _ _ _ _ _)
set_option maxRecDepth 100000 in
set_option maxHeartbeats 4000000 in
theorem ask_wait (h : IsSvc w b tb kb mb wv n s) (hs : s.Ok) (c : Cm) (hg : c.client < 8) (hmd : c.mode = 1 ∨ c.mode = 2) (hr : c.a < c.b) (hr2 : c.b ≤ 256) (hlv : livesB s.B c.client = true) (hcv : (s.wait.any fun o => decide (o.c = c.client)) = false) (hla : s.last < 1099511627776) (hfr : freeB s.R c.hd s.wait = false) (hw32 : s.wait.length < 32) : Calls Tryd.prog 111 #[.pointer (some ⟨b, 0, none⟩), c.val] w (MPost w b tb kb mb wv n (⟨s.R, s.B, s.wait ++ [c.hd], s.last, s.by'⟩)) := by
  obtain ⟨wa, wc, rfl⟩ := row_lens h.row
  have hM := MB.made h c
  obtain ⟨M, hMe⟩ : ∃ M, M = ((w.alloc (.cells c.cells.toArray 36)).alloc (.cells #[.int .i64 0, .int .i64 0, .slice none 0 0, .slice none 0 0, .slice none 0 0] 111)) := ⟨_, rfl⟩
  have hz : M.heap.size = w.heap.size + 1 + 1 := by rw [hMe]; simp
  rw [← hMe] at hM
  have hA := hM.below ((Below.refl _ _).alloc (Nat.le_refl _) (.cells #[.int .i64 (c.a : Int), .int .i64 (c.b : Int), .int .i64 (c.client : Int), .int .i64 (c.mode : Int)] 57))
  have hX := HBox.made M c.hd 57
  rw [hz] at hX
  have hX' : HBox (M.alloc (.cells #[.int .i64 (c.a : Int), .int .i64 (c.b : Int), .int .i64 (c.client : Int), .int .i64 (c.mode : Int)] 57)) (w.heap.size + 1 + 1) c.hd := hX
  have hflw := h.lt
  rw [hMe] at hA hX'
  clear hX hM
  unfold Cm.cells at hA hX'
  have HM := Lib.hid hA
  have HX := Lib.hid hX'
  have Hfl := Lib.hid hflw
  have hcl := fun W => gclient_any (w := W) c.client
  have hmix : Tryd.prog.follows .mixedOrders = true := by kernel_rfl
  have x1 := hA.cb 1 _ rfl
  have x5 := hA.cb 5 _ rfl
  have x6 := hA.cb 6 _ rfl
  have x7 := hA.cb 7 _ rfl
  clear h hA hX' hflw hMe hz
  rw [decide_eq_true hg] at hcl
  have ea : decide ((c.a : Int) < 0) = false := by simp
  have eg : decide ((c.b : Int) ≤ (c.a : Int)) = false := by simp; omega
  have eb : decide ((256 : Int) < (c.b : Int)) = false := by simp; omega
  have el : decide ((1099511627776 : Int) ≤ (s.last : Int)) = false := by simp; omega
  have e32 : decide ((32 : Int) ≤ (s.wait.length : Int)) = false := by simp; omega
  obtain ⟨i0, hi0, hz0, hz1, hz2⟩ := info_parts Tryd.infoHold
  have Hi := Lib.hid hi0
  have Hz := Lib.hid hz0
  have Hz1 := Lib.hid hz1
  have Hz2 := Lib.hid hz2
  clear hi0 hz0 hz1 hz2
  unfold Cm.val
  have em : ((c.mode : Int) != 1) = false ∨ (((c.mode : Int) != 1) = true ∧ ((c.mode : Int) != 2) = false) := by rcases hmd with e | e <;> simp [e]
  rcases em with em1 | ⟨em1, em2⟩
  all_goals
    go_enter Tryd.func111, Tryd.ntmps111
    go_wp2_with (first
      | (go_at_call 119; refine (hcl _).mono ?_; clear hcl; rintro e w1 ⟨rfl, hw⟩; rw [hw] at HM HX x1 x5 x6 x7; clear hw
         have hl := lives_any HM.out.svc c.client
         rw [hlv] at hl)
      | (go_at_call 120; refine hl.mono ?_; clear hl; rintro e w2 ⟨rfl, hw⟩; rw [← hw]; clear hw w2
         have c2 := HM.out.svc.c2
         have hco := contains_any HM.out.svc.row (by have := hs.n; show s.wait.length ≤ _; omega) 122 #[.pointer (some ⟨w.heap.size, 0, none⟩)] (fun o => decide (o.c = c.client)) (enters_of Tryd.func122 (by kernel_rfl) rfl) (fun y W _ hB => ask1_any W w.heap.size c.client ((World.cell?_of_block (a := ⟨w.heap.size, 1, none⟩) (hB.block _ (World.block_lt_of_cell? _ _ x1))).trans x1) y)
         rw [hcv] at hco)
      | (go_at_call 121; refine hco.mono ?_; clear hco; rintro e w3 ⟨rfl, hb3⟩
         have HM3 := Lib.hid (HM.out.below hb3)
         have HX3 := Lib.hid (HX.out.below hb3)
         clear HM HX x1 x5 x6 x7 c2 hb3
         have c3 := HM3.out.svc.c3))
    have hgv := give_no HM3.out.drew.svc hs c.hd s.wait HM3.out.drew.svc.row (by have := hs.n; show s.wait.length ≤ _; omega) hfr
    rw [show (c.hd).val = .agg #[.int .i64 (c.a : Int), .int .i64 (c.b : Int), .int .i64 (c.client : Int), .int .i64 (c.mode : Int)] from rfl] at hgv
    refine wp_region_held_drew (S := fun W => W.cell? ⟨b, 2, none⟩ = some (.slice wa s.wait.length wc) ∧ HBox W (w.heap.size + 1 + 1) c.hd) hmix ⟨HM3.out.drew.svc.c2, HX3.out.keep rfl⟩ (fun hHeld => ?_)
    refine wpAnyH_take (i := 0) (oi := ⟨_, _, _, _, _, _⟩) (v := .pointer (some ⟨b, 0, none⟩)) rfl (by kernel_rfl) (by kernel_rfl) (by kernel_rfl) (fun _ _ _ h => h) (Or.inl ⟨by rfl, fun _ _ => rfl⟩) hHeld ?_
    try simp only [Act.put, List.setIfInBounds_toArray, List.set_cons_zero, List.set_cons_succ]
    refine wpAnyH_take (i := 1) (oi := ⟨_, _, _, _, _, _⟩) (v := .agg #[.int .i64 (c.a : Int), .int .i64 (c.b : Int), .int .i64 (c.client : Int), .int .i64 (c.mode : Int)]) rfl (by kernel_rfl) (by kernel_rfl) (by kernel_rfl) (fun _ _ _ h => h) (Or.inl ⟨by rfl, fun W hW => by have g0 := hW.2.a; have g1 := hW.2.b; have g2 := hW.2.c; have g3 := hW.2.m; dsimp only [Cm.hd] at g0 g1 g2 g3; go_simp⟩) hHeld ?_
    try simp only [Act.put, List.setIfInBounds_toArray, List.set_cons_zero, List.set_cons_succ]
    refine wpAnyH_take (i := 2) (oi := ⟨_, _, _, _, _, _⟩) (v := .pointer (some ⟨b, 0, none⟩)) rfl (by kernel_rfl) (by kernel_rfl) (by kernel_rfl) (fun _ _ _ h => h) (Or.inl ⟨by rfl, fun _ _ => rfl⟩) hHeld ?_
    try simp only [Act.put, List.setIfInBounds_toArray, List.set_cons_zero, List.set_cons_succ]
    refine wpAnyH_take (i := 3) (oi := ⟨_, _, _, _, _, _⟩) (v := .pointer (some ⟨b, 0, none⟩)) rfl (by kernel_rfl) (by kernel_rfl) (by kernel_rfl) (fun _ _ _ h => h) (Or.inl ⟨by rfl, fun _ _ => by go_simp⟩) hHeld ?_
    try simp only [Act.put, List.setIfInBounds_toArray, List.set_cons_zero, List.set_cons_succ]
    refine wpAnyH_take (i := 4) (oi := ⟨_, _, _, _, _, _⟩) (v := .pointer (some ⟨b, 2, none⟩)) rfl (by kernel_rfl) (by kernel_rfl) (by kernel_rfl) (fun _ _ _ h => h) (Or.inl ⟨by rfl, fun _ _ => by go_simp⟩) hHeld ?_
    try simp only [Act.put, List.setIfInBounds_toArray, List.set_cons_zero, List.set_cons_succ]
    refine wpAnyH_take (i := 5) (oi := ⟨_, _, _, _, _, _⟩) (v := .slice wa s.wait.length wc) rfl (by kernel_rfl) (by kernel_rfl) (by kernel_rfl) (fun _ _ _ h => h) (Or.inl ⟨by rfl, fun W hW => by have h2 := hW.1; go_simp⟩) hHeld ?_
    try simp only [Act.put, List.setIfInBounds_toArray, List.set_cons_zero, List.set_cons_succ]
    refine wpAnyH_ready (rs := [6]) (by kernel_rfl) (by simp) (AllReadyH.cons (o := ⟨_, _, _, _, _, _⟩) rfl (fun K hK => ?_) AllReadyH.nil)
    rw [if_pos (by rfl)]
    go_simp
    refine hgv.mono ?_
    clear hgv
    rintro e w4 ⟨rfl, hb4⟩
    have HM4 := Lib.hid (HM3.out.drew.below hb4)
    have HX4 := Lib.hid ((HX3.out.keep (w' := w3.drew) rfl).below hb4)
    clear hb4
    refine hK.out _ _ ⟨HM4.out.svc.c2, HX4.out⟩ (fun hHeld => ?_)
    clear hK K HM3 HX3 c3
    try simp only [Act.put, List.setIfInBounds_toArray, List.set_cons_zero, List.set_cons_succ]
    refine wpAnyH_take (i := 7) (oi := ⟨_, _, _, _, _, _⟩) (v := .tuple #[.int .i64 0, .int .i64 0, .bool true]) rfl (by kernel_rfl) (by kernel_rfl) (by kernel_rfl) (fun _ _ _ h => h) (Or.inl ⟨by rfl, fun _ _ => rfl⟩) hHeld ?_
    try simp only [Act.put, List.setIfInBounds_toArray, List.set_cons_zero, List.set_cons_succ]
    refine wpAnyH_take (i := 8) (oi := ⟨_, _, _, _, _, _⟩) (v := .int .i64 0) rfl (by kernel_rfl) (by kernel_rfl) (by kernel_rfl) (fun _ _ _ h => h) (Or.inl ⟨by rfl, fun _ _ => by go_simp⟩) hHeld ?_
    try simp only [Act.put, List.setIfInBounds_toArray, List.set_cons_zero, List.set_cons_succ]
    refine wpAnyH_take (i := 9) (oi := ⟨_, _, _, _, _, _⟩) (v := .int .i64 0) rfl (by kernel_rfl) (by kernel_rfl) (by kernel_rfl) (fun _ _ _ h => h) (Or.inl ⟨by rfl, fun _ _ => by go_simp⟩) hHeld ?_
    try simp only [Act.put, List.setIfInBounds_toArray, List.set_cons_zero, List.set_cons_succ]
    refine wpAnyH_take (i := 10) (oi := ⟨_, _, _, _, _, _⟩) (v := .bool true) rfl (by kernel_rfl) (by kernel_rfl) (by kernel_rfl) (fun _ _ _ h => h) (Or.inl ⟨by rfl, fun _ _ => by go_simp⟩) hHeld ?_
    try simp only [Act.put, List.setIfInBounds_toArray, List.set_cons_zero, List.set_cons_succ]
    refine wpAnyH_take (i := 11) (oi := ⟨_, _, _, _, _, _⟩) (v := .int .i64 0) rfl (by kernel_rfl) (by kernel_rfl) (by kernel_rfl) (fun _ _ _ h => h) (Or.inl ⟨by rfl, fun _ _ => rfl⟩) hHeld ?_
    try simp only [Act.put, List.setIfInBounds_toArray, List.set_cons_zero, List.set_cons_succ]
    refine wpAnyH_take (i := 12) (oi := ⟨_, _, _, _, _, _⟩) (v := .int .i64 0) rfl (by kernel_rfl) (by kernel_rfl) (by kernel_rfl) (fun _ _ _ h => h) (Or.inl ⟨by rfl, fun _ _ => rfl⟩) hHeld ?_
    try simp only [Act.put, List.setIfInBounds_toArray, List.set_cons_zero, List.set_cons_succ]
    refine wpAnyH_take (i := 13) (oi := ⟨_, _, _, _, _, _⟩) (v := .bool true) rfl (by kernel_rfl) (by kernel_rfl) (by kernel_rfl) (fun _ _ _ h => h) (Or.inl ⟨by rfl, fun _ _ => rfl⟩) hHeld ?_
    try simp only [Act.put, List.setIfInBounds_toArray, List.set_cons_zero, List.set_cons_succ]
    refine wpAnyH_done (by kernel_rfl) ?_ _
    clear hHeld
    have c2 := HM4.out.svc.c2
    go_wp2_with fail
    clear c2
    have c2 := HM4.out.drew.svc.c2
    have c2n := HM4.out.svc.c2
    have hb2 := HM4.out.svc.lt b (.inl rfl)
    have c2a : (w4.drew.alloc (.cells (Hd.cells c.hd).toArray 57)).cell? ⟨b, 2, none⟩ = some (.slice wa s.wait.length wc) := (World.cell?_alloc_lt _ _ _ hb2).trans c2
    have HXa := Lib.hid (show HBox (w4.drew.alloc (.cells (Hd.cells c.hd).toArray 57)) (w.heap.size + 1 + 1) c.hd from (HX4.out.keep (w' := w4.drew) rfl).keep (Below.heap_alloc _ _ _ HX4.out.lt))
    have HOA := Lib.hid (World.ownsRow.alloc HM4.out.drew.svc.row (.cells (Hd.cells c.hd).toArray 57))
    have Hcl := Lib.hid (show ∀ j u, (Hd.cells c.hd)[j]? = some u → (w4.drew.alloc (.cells (Hd.cells c.hd).toArray 57)).cell? ((⟨w4.heap.size, 0, none⟩ : Addr).add j) = some u from fun j u hj => by
      rw [Addr.add_mid, Nat.zero_add, show w4.heap.size = w4.drew.heap.size from rfl, World.cell?_alloc_new]
      simpa using hj)
    have Hgr := Lib.hid (show ∀ w5, (w4.drew.alloc (.cells (Hd.cells c.hd).toArray 57)).grownBy w5 (Value.ownBlock (Value.slice wa s.wait.length wc)) → Moves (fun k => Value.ownBlock (Value.slice wa s.wait.length wc) = some k) w4 w5 from fun w5 hg => (((Moves.refl _ w4).drew).alloc _).grown hg (fun k hk => .inl hk))
    refine wp_region_held_drew (S := fun W => HBox W (w.heap.size + 1 + 1) c.hd) hmix (HX4.out.keep rfl) (fun hHeld => ?_)
    refine wpAnyH_take (i := 0) (oi := ⟨_, _, _, _, _, _⟩) (v := .pointer (some ⟨b, 0, none⟩)) rfl (by kernel_rfl) (by kernel_rfl) (by kernel_rfl) (fun _ _ _ h => h) (Or.inl ⟨by rfl, fun _ _ => rfl⟩) hHeld ?_
    try simp only [Act.put, List.setIfInBounds_toArray, List.set_cons_zero, List.set_cons_succ]
    refine wpAnyH_take (i := 1) (oi := ⟨_, _, _, _, _, _⟩) (v := .pointer (some ⟨b, 0, none⟩)) rfl (by kernel_rfl) (by kernel_rfl) (by kernel_rfl) (fun _ _ _ h => h) (Or.inl ⟨by rfl, fun _ _ => rfl⟩) hHeld ?_
    try simp only [Act.put, List.setIfInBounds_toArray, List.set_cons_zero, List.set_cons_succ]
    refine wpAnyH_take (i := 2) (oi := ⟨_, _, _, _, _, _⟩) (v := .pointer (some ⟨b, 0, none⟩)) rfl (by kernel_rfl) (by kernel_rfl) (by kernel_rfl) (fun _ _ _ h => h) (Or.inl ⟨by rfl, fun _ _ => by go_simp⟩) hHeld ?_
    try simp only [Act.put, List.setIfInBounds_toArray, List.set_cons_zero, List.set_cons_succ]
    refine wpAnyH_take (i := 3) (oi := ⟨_, _, _, _, _, _⟩) (v := .pointer (some ⟨b, 2, none⟩)) rfl (by kernel_rfl) (by kernel_rfl) (by kernel_rfl) (fun _ _ _ h => h) (Or.inl ⟨by rfl, fun _ _ => by go_simp⟩) hHeld ?_
    try simp only [Act.put, List.setIfInBounds_toArray, List.set_cons_zero, List.set_cons_succ]
    refine wpAnyH_take (i := 5) (oi := ⟨_, _, _, _, _, _⟩) (v := .agg #[.int .i64 (c.a : Int), .int .i64 (c.b : Int), .int .i64 (c.client : Int), .int .i64 (c.mode : Int)]) rfl (by kernel_rfl) (by kernel_rfl) (by kernel_rfl) (fun _ _ _ h => h) (Or.inl ⟨by rfl, fun W hW => by have g0 := hW.a; have g1 := hW.b; have g2 := hW.c; have g3 := hW.m; dsimp only [Cm.hd] at g0 g1 g2 g3; go_simp⟩) hHeld ?_
    try simp only [Act.put, List.setIfInBounds_toArray, List.set_cons_zero, List.set_cons_succ]
    refine wpAnyH_ready (rs := [4, 6]) (by kernel_rfl) (by simp) (AllReadyH.cons (o := ⟨_, _, _, _, _, _⟩) rfl (fun K hK => ?_) (AllReadyH.cons (o := ⟨_, _, _, _, _, _⟩) rfl (fun K hK => ?_) AllReadyH.nil))
    · rw [if_pos (by rfl)]
      go_simp
      refine hK.out _ _ hHeld (fun hHeld => ?_)
      clear hK K
      try simp only [Act.put, List.setIfInBounds_toArray, List.set_cons_zero, List.set_cons_succ]
      refine wpAnyH_ready (rs := [6]) (by kernel_rfl) (by simp) (AllReadyH.cons (o := ⟨_, _, _, _, _, _⟩) rfl (fun K hK => ?_) AllReadyH.nil)
      rw [if_pos (by rfl)]
      refine wp_buildSlice_one 47 57 (.tmp 105) rfl (Hd.cells c.hd) _ Tryd.underlying47 Tryd.infoHold2 (by show 0 < 4; decide) (by show 4 ≤ _; decide) rfl ?_
      refine hK.out _ _ HXa.out (fun hHeld => ?_)
      clear hK K
      try simp only [Act.put, List.setIfInBounds_toArray, List.set_cons_zero, List.set_cons_succ]
      refine wpAnyH_ready (rs := [7]) (by kernel_rfl) (by simp) (AllReadyH.cons (o := ⟨_, _, _, _, _, _⟩) rfl (fun K hK => ?_) AllReadyH.nil)
      refine step_append_lies _ rfl (.tmp 104) (.tmp 106) 47 rfl 0 57 i0 _ 4 32 Tryd.underlying47 Hi.out Hz.out Hz1.out Hz2.out rfl (by decide) _ s.wait.length (hrows s.wait) rfl HOA.out ⟨w4.heap.size, 0, none⟩ 1 1 (Hd.cells c.hd) rfl rfl Hcl.out (one_hcells c.hd) (by decide) (by unfold maxLen; omega) (by omega) (Nat.zero_le _) _ rfl ?_
      intro g cap w5 hown5 hgrow hat hlt
      have hm5 := Hgr.out w5 hgrow
      have hbg : w5.heap[b]? = w4.heap[b]? := hm5.block b (HM4.out.svc.lt b (.inl rfl)) (fun e => (HM4.out.svc.d2 _ e).1 rfl)
      have hxg : w5.heap[(w.heap.size + 1 + 1)]? = w4.heap[(w.heap.size + 1 + 1)]? := hm5.block _ HX4.out.lt (fun e => by have := Hfl.out _ (.inr (.inr (.inr (.inr e)))); omega)
      have c25 : w5.cell? ⟨b, 2, none⟩ = some (.slice wa s.wait.length wc) := (World.cell?_of_block (a := ⟨b, 2, none⟩) hbg).trans HM4.out.svc.c2
      have f25 : w5.frozen? ⟨b, 2, none⟩ = false := (World.frozen?_of_block (a := ⟨b, 2, none⟩) hbg).trans (HM4.out.svc.fro 2)
      have hx5 : HBox w5 (w.heap.size + 1 + 1) c.hd := HX4.out.keep hxg
      have hgo : ∀ k, (Value.slice (some ⟨g, 0, none⟩) (s.wait.length + 1) cap).ownBlock = some k → (Value.slice wa s.wait.length wc).ownBlock = some k ∨ w4.heap.size ≤ k := fun k hk => by
        simp only [Value.ownBlock, Option.some.injEq] at hk
        subst hk
        rcases hat with h1 | h1
        · exact .inl h1
        · exact .inr (by simp at h1; omega)
      have HM6 := Lib.hid (HM4.out.next (HM4.out.svc.grown (l := s.wait ++ [c.hd]) hm5 (by rw [List.length_append, hrows_app]; simpa [hrows] using hown5) hgo) ((hm5.mono (F' := fun k => fps b tb kb mb (.slice wa s.wait.length wc) k) fun k _ hk => .inr (.inr (.inr (.inr hk)))).setCell ⟨b, 2, none⟩ _ (.inl (.inl rfl))) (fun k hk => .inl hk) (fun k hk => by rcases hgo k hk with h1 | h1; exact .inl h1; exact .inr (Nat.le_trans HM4.out.sz h1)))
      have HX6 := Lib.hid (hx5.keep (w' := w5.setCell ⟨b, 2, none⟩ (.slice (some ⟨g, 0, none⟩) (s.wait.length + 1) cap)) (Below.heap_setCell _ _ _ _ (show w.heap.size + 1 + 1 ≠ b from by have := Hfl.out b (.inl rfl); omega)))
      refine hK.out _ _ hx5 (fun hHeld => ?_)
      clear hK K hgrow hown5 hat hlt hm5 hbg hxg hgo
      try simp only [Act.put, List.setIfInBounds_toArray, List.set_cons_zero, List.set_cons_succ]
      refine wpAnyH_take (i := 8) (oi := ⟨_, _, _, _, _, _⟩) (v := .pointer (some ⟨b, 0, none⟩)) rfl (by kernel_rfl) (by kernel_rfl) (by kernel_rfl) (fun _ _ _ h => h) (Or.inl ⟨by rfl, fun _ _ => by go_simp⟩) hHeld ?_
      try simp only [Act.put, List.setIfInBounds_toArray, List.set_cons_zero, List.set_cons_succ]
      refine wpAnyH_take (i := 9) (oi := ⟨_, _, _, _, _, _⟩) (v := .pointer (some ⟨b, 2, none⟩)) rfl (by kernel_rfl) (by kernel_rfl) (by kernel_rfl) (fun _ _ _ h => h) (Or.inl ⟨by rfl, fun _ _ => by go_simp⟩) hHeld ?_
      try simp only [Act.put, List.setIfInBounds_toArray, List.set_cons_zero, List.set_cons_succ]
      refine wpAnyH_ready (rs := [10]) (by kernel_rfl) (by simp) (AllReadyH.cons (o := ⟨_, _, _, _, _, _⟩) rfl (fun K hK => ?_) AllReadyH.nil)
      rw [if_pos (by rfl)]
      go_simp
      refine hK.out _ _ HX6.out (fun _ => ?_)
      clear hK K
      try simp only [Act.put, List.setIfInBounds_toArray, List.set_cons_zero, List.set_cons_succ]
      refine wpAnyH_done (by kernel_rfl) ?_ _
      clear c2 c2n c2a c25 f25 hx5 hHeld HXa HOA Hcl Hgr
      generalize w5.setCell ⟨b, 2, none⟩ (.slice (some ⟨g, 0, none⟩) (s.wait.length + 1) cap) = w6 at HM6 HX6 ⊢
      have c0 := HM6.out.svc.c0
      have y0 : w6.cell? ⟨w.heap.size + 1 + 1, 0, none⟩ = some (.int .i64 (c.a : Int)) := HX6.out.a
      have y1 : w6.cell? ⟨w.heap.size + 1 + 1, 1, none⟩ = some (.int .i64 (c.b : Int)) := HX6.out.b
      have y2 : w6.cell? ⟨w.heap.size + 1 + 1, 2, none⟩ = some (.int .i64 (c.client : Int)) := HX6.out.c
      have y3 : w6.cell? ⟨w.heap.size + 1 + 1, 3, none⟩ = some (.int .i64 (c.mode : Int)) := HX6.out.m
      have hag := against_any HM6.out.drew.svc.tab hs.R c.hd
      rw [show (c.hd).val = .agg #[.int .i64 (c.a : Int), .int .i64 (c.b : Int), .int .i64 (c.client : Int), .int .i64 (c.mode : Int)] from rfl] at hag
      go_wp2_with fail
      refine wp_region_still_tail 6 (by kernel_rfl) (by kernel_rfl) ?_
      simp only [List.take_succ_cons, List.take_zero, List.drop_succ_cons, List.drop_zero]
      iterate 6 still_step
      refine wpStill_nil ?_
      go_wp2_with (go_at_call 124; refine hag.mono ?_; clear hag; rintro e w7 ⟨v7, rfl, ho7, hb7⟩
                   obtain ⟨v7a, v7c, rfl⟩ := row_lens ho7
                   clear ho7
                   have HM7 := Lib.hid (HM6.out.drew.below hb7)
                   clear hb7 y0 y1 y2 y3 c0 HM6 HX6
                   generalize (someOf s.R c.hd.a c.hd.b (agP c.hd) 8).length = l7
                   obtain ⟨u0, r0⟩ := HM7.out.r 0 (by omega)
                   obtain ⟨u1, r1⟩ := HM7.out.r 1 (by omega)
                   obtain ⟨u2, r2⟩ := HM7.out.r 2 (by omega)
                   obtain ⟨u3, r3⟩ := HM7.out.r 3 (by omega)
                   obtain ⟨u4, r4⟩ := HM7.out.r 4 (by omega)
                   have p0 := HM7.out.rf 0
                   have p1 := HM7.out.rf 1
                   have p2 := HM7.out.rf 2
                   have p3 := HM7.out.rf 3
                   have p4 := HM7.out.rf 4)
      obtain ⟨z0, z1, z2, z3, z4⟩ := set5_cells (B := w.heap.size + 1) (.int .i64 170) (.int .i64 0) (.slice none 0 0) (.slice v7a l7 v7c) (.slice none 0 0) HM7.out.r
      refine bodyPost_ret (v := .agg #[.int .i64 170, .int .i64 0, .slice none 0 0, .slice v7a l7 v7c, .slice none 0 0]) (by simp [results, Tryd.results111, go_sem, z0, z1, z2, z3, z4]) rfl ?_
      exact HM7.out.fin (by omega) _ _ _ _ _ rfl (ansv _ _ _ _ _ _ _ _ _ _ _)
    · rw [if_pos (by rfl)]
      refine wp_buildSlice_one 47 57 (.tmp 105) rfl (Hd.cells c.hd) _ Tryd.underlying47 Tryd.infoHold2 (by show 0 < 4; decide) (by show 4 ≤ _; decide) rfl ?_
      refine hK.out _ _ HXa.out (fun hHeld => ?_)
      clear hK K
      try simp only [Act.put, List.setIfInBounds_toArray, List.set_cons_zero, List.set_cons_succ]
      refine wpAnyH_ready (rs := [4]) (by kernel_rfl) (by simp) (AllReadyH.cons (o := ⟨_, _, _, _, _, _⟩) rfl (fun K hK => ?_) AllReadyH.nil)
      rw [if_pos (by rfl)]
      go_simp
      refine hK.out _ _ hHeld (fun hHeld => ?_)
      clear hK K
      try simp only [Act.put, List.setIfInBounds_toArray, List.set_cons_zero, List.set_cons_succ]
      refine wpAnyH_ready (rs := [7]) (by kernel_rfl) (by simp) (AllReadyH.cons (o := ⟨_, _, _, _, _, _⟩) rfl (fun K hK => ?_) AllReadyH.nil)
      refine step_append_lies _ rfl (.tmp 104) (.tmp 106) 47 rfl 0 57 i0 _ 4 32 Tryd.underlying47 Hi.out Hz.out Hz1.out Hz2.out rfl (by decide) _ s.wait.length (hrows s.wait) rfl HOA.out ⟨w4.heap.size, 0, none⟩ 1 1 (Hd.cells c.hd) rfl rfl Hcl.out (one_hcells c.hd) (by decide) (by unfold maxLen; omega) (by omega) (Nat.zero_le _) _ rfl ?_
      intro g cap w5 hown5 hgrow hat hlt
      have hm5 := Hgr.out w5 hgrow
      have hbg : w5.heap[b]? = w4.heap[b]? := hm5.block b (HM4.out.svc.lt b (.inl rfl)) (fun e => (HM4.out.svc.d2 _ e).1 rfl)
      have hxg : w5.heap[(w.heap.size + 1 + 1)]? = w4.heap[(w.heap.size + 1 + 1)]? := hm5.block _ HX4.out.lt (fun e => by have := Hfl.out _ (.inr (.inr (.inr (.inr e)))); omega)
      have c25 : w5.cell? ⟨b, 2, none⟩ = some (.slice wa s.wait.length wc) := (World.cell?_of_block (a := ⟨b, 2, none⟩) hbg).trans HM4.out.svc.c2
      have f25 : w5.frozen? ⟨b, 2, none⟩ = false := (World.frozen?_of_block (a := ⟨b, 2, none⟩) hbg).trans (HM4.out.svc.fro 2)
      have hx5 : HBox w5 (w.heap.size + 1 + 1) c.hd := HX4.out.keep hxg
      have hgo : ∀ k, (Value.slice (some ⟨g, 0, none⟩) (s.wait.length + 1) cap).ownBlock = some k → (Value.slice wa s.wait.length wc).ownBlock = some k ∨ w4.heap.size ≤ k := fun k hk => by
        simp only [Value.ownBlock, Option.some.injEq] at hk
        subst hk
        rcases hat with h1 | h1
        · exact .inl h1
        · exact .inr (by simp at h1; omega)
      have HM6 := Lib.hid (HM4.out.next (HM4.out.svc.grown (l := s.wait ++ [c.hd]) hm5 (by rw [List.length_append, hrows_app]; simpa [hrows] using hown5) hgo) ((hm5.mono (F' := fun k => fps b tb kb mb (.slice wa s.wait.length wc) k) fun k _ hk => .inr (.inr (.inr (.inr hk)))).setCell ⟨b, 2, none⟩ _ (.inl (.inl rfl))) (fun k hk => .inl hk) (fun k hk => by rcases hgo k hk with h1 | h1; exact .inl h1; exact .inr (Nat.le_trans HM4.out.sz h1)))
      have HX6 := Lib.hid (hx5.keep (w' := w5.setCell ⟨b, 2, none⟩ (.slice (some ⟨g, 0, none⟩) (s.wait.length + 1) cap)) (Below.heap_setCell _ _ _ _ (show w.heap.size + 1 + 1 ≠ b from by have := Hfl.out b (.inl rfl); omega)))
      refine hK.out _ _ hx5 (fun hHeld => ?_)
      clear hK K hgrow hown5 hat hlt hm5 hbg hxg hgo
      try simp only [Act.put, List.setIfInBounds_toArray, List.set_cons_zero, List.set_cons_succ]
      refine wpAnyH_take (i := 8) (oi := ⟨_, _, _, _, _, _⟩) (v := .pointer (some ⟨b, 0, none⟩)) rfl (by kernel_rfl) (by kernel_rfl) (by kernel_rfl) (fun _ _ _ h => h) (Or.inl ⟨by rfl, fun _ _ => by go_simp⟩) hHeld ?_
      try simp only [Act.put, List.setIfInBounds_toArray, List.set_cons_zero, List.set_cons_succ]
      refine wpAnyH_take (i := 9) (oi := ⟨_, _, _, _, _, _⟩) (v := .pointer (some ⟨b, 2, none⟩)) rfl (by kernel_rfl) (by kernel_rfl) (by kernel_rfl) (fun _ _ _ h => h) (Or.inl ⟨by rfl, fun _ _ => by go_simp⟩) hHeld ?_
      try simp only [Act.put, List.setIfInBounds_toArray, List.set_cons_zero, List.set_cons_succ]
      refine wpAnyH_ready (rs := [10]) (by kernel_rfl) (by simp) (AllReadyH.cons (o := ⟨_, _, _, _, _, _⟩) rfl (fun K hK => ?_) AllReadyH.nil)
      rw [if_pos (by rfl)]
      go_simp
      refine hK.out _ _ HX6.out (fun _ => ?_)
      clear hK K
      try simp only [Act.put, List.setIfInBounds_toArray, List.set_cons_zero, List.set_cons_succ]
      refine wpAnyH_done (by kernel_rfl) ?_ _
      clear c2 c2n c2a c25 f25 hx5 hHeld HXa HOA Hcl Hgr
      generalize w5.setCell ⟨b, 2, none⟩ (.slice (some ⟨g, 0, none⟩) (s.wait.length + 1) cap) = w6 at HM6 HX6 ⊢
      have c0 := HM6.out.svc.c0
      have y0 : w6.cell? ⟨w.heap.size + 1 + 1, 0, none⟩ = some (.int .i64 (c.a : Int)) := HX6.out.a
      have y1 : w6.cell? ⟨w.heap.size + 1 + 1, 1, none⟩ = some (.int .i64 (c.b : Int)) := HX6.out.b
      have y2 : w6.cell? ⟨w.heap.size + 1 + 1, 2, none⟩ = some (.int .i64 (c.client : Int)) := HX6.out.c
      have y3 : w6.cell? ⟨w.heap.size + 1 + 1, 3, none⟩ = some (.int .i64 (c.mode : Int)) := HX6.out.m
      have hag := against_any HM6.out.drew.svc.tab hs.R c.hd
      rw [show (c.hd).val = .agg #[.int .i64 (c.a : Int), .int .i64 (c.b : Int), .int .i64 (c.client : Int), .int .i64 (c.mode : Int)] from rfl] at hag
      go_wp2_with fail
      refine wp_region_still_tail 6 (by kernel_rfl) (by kernel_rfl) ?_
      simp only [List.take_succ_cons, List.take_zero, List.drop_succ_cons, List.drop_zero]
      iterate 6 still_step
      refine wpStill_nil ?_
      go_wp2_with (go_at_call 124; refine hag.mono ?_; clear hag; rintro e w7 ⟨v7, rfl, ho7, hb7⟩
                   obtain ⟨v7a, v7c, rfl⟩ := row_lens ho7
                   clear ho7
                   have HM7 := Lib.hid (HM6.out.drew.below hb7)
                   clear hb7 y0 y1 y2 y3 c0 HM6 HX6
                   generalize (someOf s.R c.hd.a c.hd.b (agP c.hd) 8).length = l7
                   obtain ⟨u0, r0⟩ := HM7.out.r 0 (by omega)
                   obtain ⟨u1, r1⟩ := HM7.out.r 1 (by omega)
                   obtain ⟨u2, r2⟩ := HM7.out.r 2 (by omega)
                   obtain ⟨u3, r3⟩ := HM7.out.r 3 (by omega)
                   obtain ⟨u4, r4⟩ := HM7.out.r 4 (by omega)
                   have p0 := HM7.out.rf 0
                   have p1 := HM7.out.rf 1
                   have p2 := HM7.out.rf 2
                   have p3 := HM7.out.rf 3
                   have p4 := HM7.out.rf 4)
      obtain ⟨z0, z1, z2, z3, z4⟩ := set5_cells (B := w.heap.size + 1) (.int .i64 170) (.int .i64 0) (.slice none 0 0) (.slice v7a l7 v7c) (.slice none 0 0) HM7.out.r
      refine bodyPost_ret (v := .agg #[.int .i64 170, .int .i64 0, .slice none 0 0, .slice v7a l7 v7c, .slice none 0 0]) (by simp [results, Tryd.results111, go_sem, z0, z1, z2, z3, z4]) rfl ?_
      exact HM7.out.fin (by omega) _ _ _ _ _ rfl (ansv _ _ _ _ _ _ _ _ _ _ _)
theorem gask_any (h : IsSvc w b tb kb mb wv n s) (hs : s.Ok) (c : Cm) : Calls Tryd.prog 111 #[.pointer (some ⟨b, 0, none⟩), c.val] w (MPost w b tb kb mb wv n (s.ask c)) := by
  by_cases hg : c.client < 8 ∧ (c.mode = 1 ∨ c.mode = 2) ∧ c.a < c.b ∧ c.b ≤ 256 ∧ livesB s.B c.client = true ∧ (s.wait.any fun o => decide (o.c = c.client)) = false ∧ s.last < 1099511627776
  · unfold GS.ask
    rw [if_pos hg]
    obtain ⟨g1, g2, g3, g4, g5, g6, g7⟩ := hg
    cases hfr : freeB s.R c.hd s.wait with
    | true =>
      rw [if_pos rfl]
      cases hfi : fitsB s.R c.hd with
      | true => rw [if_pos rfl]; exact ask_yes h hs c g1 g2 g3 g4 g5 g6 g7 hfr hfi
      | false => rw [if_neg (by decide)]; exact ask_full h hs c g1 g2 g3 g4 g5 g6 g7 hfr hfi
    | false =>
      rw [if_neg (by decide)]
      by_cases hw : s.wait.length < 32
      · rw [if_pos hw]; exact ask_wait h hs c g1 g2 g3 g4 g5 g6 g7 hfr hw
      · rw [if_neg hw]; exact ask_many h hs c g1 g2 g3 g4 g5 g6 g7 hfr (by omega)
  · have hrel : s.ask c = s := by unfold GS.ask; rw [if_neg hg]
    rw [hrel]
    by_cases g1 : c.client < 8
    case neg => exact ask_e1 h c g1
    by_cases g2 : c.mode = 1 ∨ c.mode = 2
    case neg => exact ask_e2 h c g1 (fun e => g2 (.inl e)) (fun e => g2 (.inr e))
    by_cases g3 : c.a < c.b
    case neg => exact ask_e3 h c g1 g2 (by omega)
    by_cases g4 : c.b ≤ 256
    case neg => exact ask_e4 h c g1 g2 g3 (by omega)
    cases g5 : livesB s.B c.client with
    | false => exact ask_e5 h c g1 g2 g3 g4 g5
    | true =>
      cases g6 : (s.wait.any fun o => decide (o.c = c.client)) with
      | true => exact ask_e6 h hs c g1 g2 g3 g4 g5 g6
      | false => exact ask_e7 h hs c g1 g2 g3 g4 g5 g6 (by have : ¬ s.last < 1099511627776 := fun g7 => hg ⟨g1, g2, g3, g4, g5, g6, g7⟩; omega)
end
end Go.Proofs.YtfjfkmoofmncnaaDoor
