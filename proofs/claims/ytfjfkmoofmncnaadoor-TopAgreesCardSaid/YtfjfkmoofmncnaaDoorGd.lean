/- The commands' methods: renew, recovering, recover, done. -/
import Derived.Test.YtfjfkmoofmncnaaDoorGc
import Derived.BigQuiet
namespace Go.Proofs.YtfjfkmoofmncnaaDoor
open Go.RowKit
section
variable {w X X' : World} {b tb kb mb n n' : Nat} {wv0 wv wv' : Value} {s s' : GS} {c : Cm}
set_option maxRecDepth 100000 in
set_option maxHeartbeats 4000000 in
theorem grenew_any (h : IsSvc w b tb kb mb wv n s) (c : Cm) : Calls Tryd.prog 114 #[.pointer (some ⟨b, 0, none⟩), c.val] w (MPost w b tb kb mb wv n (s.renew c)) := by
  have hM := MB.made h c
  have HM := Lib.hid hM
  have hmix : Tryd.prog.follows .mixedOrders = true := by kernel_rfl
  obtain ⟨X, hX⟩ : ∃ X, X = ((w.alloc (.cells c.cells.toArray 36)).alloc (.cells #[.int .i64 0, .int .i64 0, .slice none 0 0, .slice none 0 0, .slice none 0 0] 111)) := ⟨_, rfl⟩
  rw [← hX] at HM
  clear hM h
  unfold Cm.cells at hX
  have HX := Lib.hid hX
  clear hX
  unfold Cm.val
  unfold GS.renew
  have hMd := HM.out.drew
  have hrn := renew_any hMd.svc.book c.client c.seq c.now c.len
  have HMd := Lib.hid hMd
  clear hMd
  go_enter Tryd.func114, Tryd.ntmps114
  go_wp2_with fail
  rw [← HX.out]
  refine wp_region_held_drew (S := fun W => W.cell? ⟨b, 1, none⟩ = some (.pointer (some ⟨kb, 0, none⟩)) ∧ W.cell? ⟨w.heap.size, 1, none⟩ = some (.int .i64 (c.client : Int)) ∧ W.cell? ⟨w.heap.size, 2, none⟩ = some (.int .i64 (c.seq : Int)) ∧ W.cell? ⟨w.heap.size, 3, none⟩ = some (.int .i64 (c.now : Int)) ∧ W.cell? ⟨w.heap.size, 4, none⟩ = some (.int .i64 (c.len : Int))) hmix ⟨HMd.out.svc.c1, HMd.out.cb 1 _ rfl, HMd.out.cb 2 _ rfl, HMd.out.cb 3 _ rfl, HMd.out.cb 4 _ rfl⟩ (fun hHeld => ?_)
  refine wpAnyH_take (i := 0) (oi := ⟨_, _, _, _, _, _⟩) (v := .pointer (some ⟨b, 0, none⟩)) rfl (by kernel_rfl) (by kernel_rfl) (by kernel_rfl) (fun _ _ _ h => h) (Or.inl ⟨by rfl, fun _ _ => rfl⟩) hHeld ?_
  try simp only [Act.put, List.setIfInBounds_toArray, List.set_cons_zero, List.set_cons_succ]
  refine wpAnyH_take (i := 1) (oi := ⟨_, _, _, _, _, _⟩) (v := .pointer (some ⟨b, 0, none⟩)) rfl (by kernel_rfl) (by kernel_rfl) (by kernel_rfl) (fun _ _ _ h => h) (Or.inl ⟨by rfl, fun _ _ => by go_simp⟩) hHeld ?_
  try simp only [Act.put, List.setIfInBounds_toArray, List.set_cons_zero, List.set_cons_succ]
  refine wpAnyH_take (i := 2) (oi := ⟨_, _, _, _, _, _⟩) (v := .pointer (some ⟨b, 0, none⟩)) rfl (by kernel_rfl) (by kernel_rfl) (by kernel_rfl) (fun _ _ _ h => h) (Or.inl ⟨by rfl, fun _ _ => by go_simp⟩) hHeld ?_
  try simp only [Act.put, List.setIfInBounds_toArray, List.set_cons_zero, List.set_cons_succ]
  refine wpAnyH_take (i := 3) (oi := ⟨_, _, _, _, _, _⟩) (v := .pointer (some ⟨b, 1, none⟩)) rfl (by kernel_rfl) (by kernel_rfl) (by kernel_rfl) (fun _ _ _ h => h) (Or.inl ⟨by rfl, fun _ _ => by go_simp⟩) hHeld ?_
  try simp only [Act.put, List.setIfInBounds_toArray, List.set_cons_zero, List.set_cons_succ]
  refine wpAnyH_take (i := 4) (oi := ⟨_, _, _, _, _, _⟩) (v := .pointer (some ⟨kb, 0, none⟩)) rfl (by kernel_rfl) (by kernel_rfl) (by kernel_rfl) (fun _ _ _ h => h) (Or.inl ⟨by rfl, fun W hW => by have h2 := hW.1; go_simp⟩) hHeld ?_
  try simp only [Act.put, List.setIfInBounds_toArray, List.set_cons_zero, List.set_cons_succ]
  refine wpAnyH_take (i := 5) (oi := ⟨_, _, _, _, _, _⟩) (v := .pointer (some ⟨w.heap.size, 1, none⟩)) rfl (by kernel_rfl) (by kernel_rfl) (by kernel_rfl) (fun _ _ _ h => h) (Or.inl ⟨by rfl, fun _ _ => by go_simp⟩) hHeld ?_
  try simp only [Act.put, List.setIfInBounds_toArray, List.set_cons_zero, List.set_cons_succ]
  refine wpAnyH_take (i := 6) (oi := ⟨_, _, _, _, _, _⟩) (v := .int .i64 (c.client : Int)) rfl (by kernel_rfl) (by kernel_rfl) (by kernel_rfl) (fun _ _ _ h => h) (Or.inl ⟨by rfl, fun W hW => by have h2 := hW.2.1; go_simp⟩) hHeld ?_
  try simp only [Act.put, List.setIfInBounds_toArray, List.set_cons_zero, List.set_cons_succ]
  refine wpAnyH_take (i := 7) (oi := ⟨_, _, _, _, _, _⟩) (v := .pointer (some ⟨w.heap.size, 2, none⟩)) rfl (by kernel_rfl) (by kernel_rfl) (by kernel_rfl) (fun _ _ _ h => h) (Or.inl ⟨by rfl, fun _ _ => by go_simp⟩) hHeld ?_
  try simp only [Act.put, List.setIfInBounds_toArray, List.set_cons_zero, List.set_cons_succ]
  refine wpAnyH_take (i := 8) (oi := ⟨_, _, _, _, _, _⟩) (v := .int .i64 (c.seq : Int)) rfl (by kernel_rfl) (by kernel_rfl) (by kernel_rfl) (fun _ _ _ h => h) (Or.inl ⟨by rfl, fun W hW => by have h2 := hW.2.2.1; go_simp⟩) hHeld ?_
  try simp only [Act.put, List.setIfInBounds_toArray, List.set_cons_zero, List.set_cons_succ]
  refine wpAnyH_take (i := 9) (oi := ⟨_, _, _, _, _, _⟩) (v := .pointer (some ⟨w.heap.size, 3, none⟩)) rfl (by kernel_rfl) (by kernel_rfl) (by kernel_rfl) (fun _ _ _ h => h) (Or.inl ⟨by rfl, fun _ _ => by go_simp⟩) hHeld ?_
  try simp only [Act.put, List.setIfInBounds_toArray, List.set_cons_zero, List.set_cons_succ]
  refine wpAnyH_take (i := 10) (oi := ⟨_, _, _, _, _, _⟩) (v := .int .i64 (c.now : Int)) rfl (by kernel_rfl) (by kernel_rfl) (by kernel_rfl) (fun _ _ _ h => h) (Or.inl ⟨by rfl, fun W hW => by have h2 := hW.2.2.2.1; go_simp⟩) hHeld ?_
  try simp only [Act.put, List.setIfInBounds_toArray, List.set_cons_zero, List.set_cons_succ]
  refine wpAnyH_take (i := 11) (oi := ⟨_, _, _, _, _, _⟩) (v := .pointer (some ⟨w.heap.size, 4, none⟩)) rfl (by kernel_rfl) (by kernel_rfl) (by kernel_rfl) (fun _ _ _ h => h) (Or.inl ⟨by rfl, fun _ _ => by go_simp⟩) hHeld ?_
  try simp only [Act.put, List.setIfInBounds_toArray, List.set_cons_zero, List.set_cons_succ]
  refine wpAnyH_take (i := 12) (oi := ⟨_, _, _, _, _, _⟩) (v := .int .i64 (c.len : Int)) rfl (by kernel_rfl) (by kernel_rfl) (by kernel_rfl) (fun _ _ _ h => h) (Or.inl ⟨by rfl, fun W hW => by have h2 := hW.2.2.2.2; go_simp⟩) hHeld ?_
  try simp only [Act.put, List.setIfInBounds_toArray, List.set_cons_zero, List.set_cons_succ]
  refine wpAnyH_ready (rs := [13]) (by kernel_rfl) (by simp) (AllReadyH.cons (o := ⟨_, _, _, _, _, _⟩) rfl (fun K hK => ?_) AllReadyH.nil)
  rw [if_pos (by rfl)]
  go_simp
  refine hrn.mono ?_
  clear hrn
  rintro e w2 ⟨⟨vn, ve, rfl⟩, hB2, hM2⟩
  have HM2 := Lib.hid (HMd.out.next (HMd.out.svc.books hB2 hM2) hM2 (fun k hk => .inl (.inr (.inr (.inl hk)))) HMd.out.ow)
  clear hB2 hM2
  refine hK.out _ _ ⟨HM2.out.svc.c1, HM2.out.cb 1 _ rfl, HM2.out.cb 2 _ rfl, HM2.out.cb 3 _ rfl, HM2.out.cb 4 _ rfl⟩ (fun hHeld => ?_)
  clear hK K
  try simp only [Act.put, List.setIfInBounds_toArray, List.set_cons_zero, List.set_cons_succ]
  refine wpAnyH_take (i := 14) (oi := ⟨_, _, _, _, _, _⟩) (v := .tuple #[.int .i64 vn, .int .i64 ve]) rfl (by kernel_rfl) (by kernel_rfl) (by kernel_rfl) (fun _ _ _ h => h) (Or.inl ⟨by rfl, fun _ _ => rfl⟩) hHeld ?_
  try simp only [Act.put, List.setIfInBounds_toArray, List.set_cons_zero, List.set_cons_succ]
  refine wpAnyH_take (i := 15) (oi := ⟨_, _, _, _, _, _⟩) (v := .int .i64 vn) rfl (by kernel_rfl) (by kernel_rfl) (by kernel_rfl) (fun _ _ _ h => h) (Or.inl ⟨by rfl, fun _ _ => by go_simp⟩) hHeld ?_
  try simp only [Act.put, List.setIfInBounds_toArray, List.set_cons_zero, List.set_cons_succ]
  refine wpAnyH_take (i := 16) (oi := ⟨_, _, _, _, _, _⟩) (v := .int .i64 ve) rfl (by kernel_rfl) (by kernel_rfl) (by kernel_rfl) (fun _ _ _ h => h) (Or.inl ⟨by rfl, fun _ _ => by go_simp⟩) hHeld ?_
  try simp only [Act.put, List.setIfInBounds_toArray, List.set_cons_zero, List.set_cons_succ]
  refine wpAnyH_take (i := 17) (oi := ⟨_, _, _, _, _, _⟩) (v := .int .i64 vn) rfl (by kernel_rfl) (by kernel_rfl) (by kernel_rfl) (fun _ _ _ h => h) (Or.inl ⟨by rfl, fun _ _ => rfl⟩) hHeld ?_
  try simp only [Act.put, List.setIfInBounds_toArray, List.set_cons_zero, List.set_cons_succ]
  refine wpAnyH_take (i := 18) (oi := ⟨_, _, _, _, _, _⟩) (v := .int .i64 ve) rfl (by kernel_rfl) (by kernel_rfl) (by kernel_rfl) (fun _ _ _ h => h) (Or.inl ⟨by rfl, fun _ _ => rfl⟩) hHeld ?_
  try simp only [Act.put, List.setIfInBounds_toArray, List.set_cons_zero, List.set_cons_succ]
  refine wpAnyH_done (by kernel_rfl) ?_ _
  obtain ⟨u0, r0⟩ := HM2.out.r 0 (by omega)
  obtain ⟨u1, r1⟩ := HM2.out.r 1 (by omega)
  obtain ⟨u2, r2⟩ := HM2.out.r 2 (by omega)
  obtain ⟨u3, r3⟩ := HM2.out.r 3 (by omega)
  obtain ⟨u4, r4⟩ := HM2.out.r 4 (by omega)
  have p0 := HM2.out.rf 0
  have p1 := HM2.out.rf 1
  have p2 := HM2.out.rf 2
  have p3 := HM2.out.rf 3
  have p4 := HM2.out.rf 4
  clear HM HMd HX hHeld
  go_wp2_with fail
  obtain ⟨z0, z1, z2, z3, z4⟩ := set5_cells (B := w.heap.size + 1) (.int .i64 ve) (.int .i64 vn) (.slice none 0 0) (.slice none 0 0) (.slice none 0 0) HM2.out.r
  refine bodyPost_ret (v := .agg #[.int .i64 ve, .int .i64 vn, .slice none 0 0, .slice none 0 0, .slice none 0 0]) (by simp [results, Tryd.results114, go_sem, z0, z1, z2, z3, z4]) rfl ?_
  exact HM2.out.fin (by omega) _ _ _ _ _ rfl (ansv _ _ _ _ _ _ _ _ _ _ _)
def rcE (s : GS) (c : Cm) : Int := if livesB s.B c.client = true then (if deadB s.B c.other = true then 0 else 3) else 200
theorem rcE_zero (s : GS) (c : Cm) : rcE s c = 0 ↔ s.recov c = true := by
  unfold rcE GS.recov
  cases livesB s.B c.client <;> cases deadB s.B c.other <;> simp
set_option maxRecDepth 100000 in
set_option maxHeartbeats 4000000 in
theorem recovg_any (h : IsSvc w b tb kb mb wv n s) (c : Cm) : Calls Tryd.prog 133 #[.pointer (some ⟨b, 0, none⟩), c.val] w fun e w' => e = .returned (.int .i64 (rcE s c)) ∧ Below w.heap.size w w' := by
  have hb : Below w.heap.size w (w.alloc (.cells c.cells.toArray 36)) := (Below.refl _ _).alloc (Nat.le_refl _) _
  have hS := h.below hb
  have c1 := hS.c1
  have hl := lives_any hS c.client
  have hd := bdead_any (w := (w.alloc (.cells c.cells.toArray 36)).drew) (hS.book.keep rfl) c.other
  have x1 := World.cell?_alloc_new w c.cells.toArray 36 1
  have x8 := World.cell?_alloc_new w c.cells.toArray 36 8
  have HB := Lib.hid hb
  clear hb hS h
  unfold Cm.cells at HB c1 hl hd x1 x8
  simp only [List.getElem?_toArray, List.getElem?_cons_succ, List.getElem?_cons_zero] at x1 x8
  unfold Cm.val rcE
  cases hlv : livesB s.B c.client with
  | false =>
    rw [hlv] at hl
    clear hlv
    go_enter Tryd.func133, Tryd.ntmps133
    go_wp2_with (go_at_call 120; refine hl.mono ?_; clear hl; rintro e w1 ⟨rfl, rfl⟩)
    go_ret
    exact ⟨rfl, HB.out⟩
  | true =>
    rw [hlv] at hl
    clear hlv
    cases hdv : deadB s.B c.other <;> rw [hdv] at hd <;> clear hdv
    all_goals
      go_enter Tryd.func133, Tryd.ntmps133
      go_wp2_with (go_at_call 120; refine hl.mono ?_; clear hl; rintro e w1 ⟨rfl, hw⟩; rw [hw] at hd c1 x1 x8 HB; clear hw)
      refine wp_region_still_tail 9 (by kernel_rfl) (by kernel_rfl) ?_
      simp only [List.take_succ_cons, List.take_zero, List.drop_succ_cons, List.drop_zero]
      iterate 7 still_step
      still_call (hd.mono fun e w' ⟨he, hw⟩ => ⟨he, hw.symm⟩)
      iterate 1 still_step
      refine wpStill_nil ?_
      go_wp2_with fail
      go_ret
      exact ⟨rfl, HB.out.drew⟩
end
end Go.Proofs.YtfjfkmoofmncnaaDoor
