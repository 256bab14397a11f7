/- The map's Take. Its last region is printed by gen_take.py. -/
import Derived.Test.YtajbodfdohhhoaaExtF
import Derived.Deep.RegionHeldLaw
namespace Go.Proofs.Ytajbodfdohhhoaa
open Go.RowKit
/-- May the range be taken? -/
def okT (L : List Rg) (r : Rg) : Bool := match L[atR r.lo L]? with
  | some x => decide (x.lo ≤ r.lo) && decide (r.hi ≤ x.hi)
  | none => false
def takeE (n : Int) (L : List Rg) (r : Rg) : Int := if mayE n r = 0 then (if okT L r then 0 else 4) else mayE n r
def takeS (n : Int) (L : List Rg) (r : Rg) : List Rg := if mayE n r = 0 ∧ okT L r = true then takeR L r.lo r.hi else L
theorem mayE_zero {n : Int} {r : Rg} (h : mayE n r = 0) : 0 ≤ r.lo ∧ r.lo < r.hi ∧ r.hi ≤ n := by
  unfold mayE at h
  split at h
  · cases h
  · split at h
    · cases h
    · omega
theorem okT_iff {n : Int} {L : List Rg} {r : Rg} (h : Rises n (-1) L) (h0 : 0 ≤ r.lo) (h1 : r.lo < r.hi) : okT L r = true ↔ allIn L r.lo r.hi := by
  unfold okT
  cases hx : L[atR r.lo L]? with
  | none => simp only [Bool.false_eq_true, false_iff]; exact take_none h h0 h1 hx
  | some x => simp only [Bool.and_eq_true, decide_eq_true_eq]; exact (take_test h h0 h1 rfl hx).symm
theorem takeR_left {L : List Rg} {r x : Rg} (hx : L[atR r.lo L]? = some x) : takeR L r.lo r.hi = L.take (atR r.lo L) ++ (left2 ⟨x.lo, r.lo⟩ ⟨r.hi, x.hi⟩ ++ L.drop (atR r.lo L + 1)) := by
  rw [takeR_some hx]
  have e : ∀ a b : Int, (if empR ⟨a, b⟩ then [] else [(⟨a, b⟩ : Rg)]) = bit a b := by
    intro a b
    unfold empR bit
    by_cases h : a < b
    · rw [if_pos h, decide_eq_false (by show ¬ b ≤ a; omega)]; rfl
    · rw [if_neg h, decide_eq_true (by show b ≤ a; omega)]; rfl
  unfold left2
  rw [e, e]
/-- A range in a block of its own. -/
def RBox (w : World) (u : Nat) (r : Rg) : Prop := u < w.heap.size ∧ w.cell? ⟨u, 0, none⟩ = some (.int .i64 r.lo) ∧ w.cell? ⟨u, 1, none⟩ = some (.int .i64 r.hi)
theorem RBox.made (w : World) (r : Rg) (t : TypeId) : RBox (w.alloc (.cells r.cells.toArray t)) w.heap.size r := ⟨by simp, by rw [World.cell?_alloc_new]; rfl, by rw [World.cell?_alloc_new]; rfl⟩
theorem RBox.keep {w w' : World} {u : Nat} {r : Rg} (h : RBox w u r) (hk : w'.heap[u]? = w.heap[u]?) (hs : w.heap.size ≤ w'.heap.size) : RBox w' u r :=
  ⟨Nat.lt_of_lt_of_le h.1 hs, (World.cell?_of_block (a := ⟨u, 0, none⟩) hk).trans h.2.1, (World.cell?_of_block (a := ⟨u, 1, none⟩) hk).trans h.2.2⟩
theorem RBox.below {w w' : World} {u : Nat} {r : Rg} (h : RBox w u r) (hb : Below w.heap.size w w') : RBox w' u r := h.keep (hb.block u h.1) hb.size
section
variable {w : World}
set_option maxRecDepth 100000 in
set_option maxHeartbeats 8000000 in
theorem mtake_any {b : Nat} {n : Int} {v : Value} {L : List Rg} (h : IsMap w b n v L) (r : Rg) :
    Calls Try.prog 14 #[.pointer (some ⟨b, 0, none⟩), r.val] w fun e w' => e = .returned (.int .i64 (takeE n L r)) ∧ TurnedR w b n v (takeS n L r) w' := by
  have hbA : Below w.heap.size w (w.alloc (.cells r.cells.toArray 27)) := (Below.refl _ _).alloc (Nat.le_refl _) _
  have hbx := RBox.made w r 27
  have hmay := may_any (h.below hbA) r
  have HbA := Lib.hid hbA
  have Hbx := Lib.hid hbx
  clear hbA hbx
  by_cases hm : mayE n r = 0
  · obtain ⟨r0, r1, r2⟩ := mayE_zero hm
    have hn2 := h.n2
    rw [hm] at hmay
    have hat := fun W (hW : IsMap W b n v L) => mat_any hW r.lo (by omega) (by omega)
    have hal := atR_le r.lo L
    have hll := h.len
    have Hh := Lib.hid h
    have Hat := Lib.hid hat
    unfold Rg.val at hmay
    cases hx : L[atR r.lo L]? with
    | none =>
      have e1 : takeE n L r = 4 := by simp [takeE, hm, okT, hx]
      have e2 : takeS n L r = L := by simp [takeS, okT, hx]
      have hk : atR r.lo L = L.length := Nat.le_antisymm hal (List.getElem?_eq_none_iff.1 hx)
      rw [e1, e2]
      rw [hk] at Hat
      clear e1 e2 hx hk hal h hat hm
      go_enter Try.func14, Try.ntmps14
      unfold Rg.val
      go_wp2_with fail
      refine hmay.mono ?_
      rintro e w2 ⟨rfl, hb2⟩
      have hb02 : Below w.heap.size w w2 := HbA.out.trans (hb2.mono HbA.out.size)
      obtain ⟨-, x0, x1⟩ := Hbx.out.below hb2
      have hat2 := Hat.out _ (Hh.out.below hb02)
      have H02 := Lib.hid hb02
      clear hmay hb2 hb02
      go_wp2_with fail
      refine hat2.mono ?_
      rintro e w3 ⟨rfl, hb3⟩
      have hb03 : Below w.heap.size w w3 := H02.out.trans (hb3.mono H02.out.size)
      have hI := Hh.out.below hb03
      have c1 := hI.c1
      obtain ⟨a, cap, rfl⟩ := Hh.out.row.lens
      have HQ := Lib.hid (fun nq => TurnedR.quiet (w' := w3.drewN nq) Hh.out (hb03.trans ⟨rfl, rfl, rfl, Nat.le_refl _, fun _ _ => rfl⟩))
      clear hat2 hb3 hb03 hI x0 x1
      go_wp2_with fail
      go_quiet (fail)
      have HT := Lib.hid (HQ.out nq)
      go_wp2_with fail
      go_ret
      exact ⟨rfl, HT.out⟩
    | some x =>
      obtain ⟨k, hk⟩ : ∃ k, atR r.lo L = k := ⟨_, rfl⟩
      have htl := takeR_left hx
      have hok := okT_iff Hh.out.rise r0 r1
      have hoe : okT L r = (decide (x.lo ≤ r.lo) && decide (r.hi ≤ x.hi)) := by rw [okT, hx]
      rw [hk] at hx Hat htl hal
      obtain ⟨g, cap, rfl, hg, hcl, hgc⟩ := h.row.at hx
      have hkl := (List.getElem?_eq_some_iff.1 hx).1
      have hrow : ∀ W, IsMap W b n (.slice (some ⟨g, 0, none⟩) L.length cap) L → W.cell? ⟨g, k * 2, none⟩ = some (.int .i64 x.lo) ∧ W.cell? ⟨g, k * 2 + 1, none⟩ = some (.int .i64 x.hi) := fun W hW => by
        obtain ⟨g', cap', hv, -, -, hc⟩ := hW.row.at hx
        simp only [Value.slice.injEq, Option.some.injEq, Addr.mk.injEq, and_true, true_and] at hv
        obtain ⟨rfl, rfl⟩ := hv
        exact ⟨hc 0 _ rfl, hc 1 _ rfl⟩
      have Hrow := Lib.hid hrow
      have Hx := Lib.hid hx
      have ekl : ((k : Int) == (L.length : Int)) = false := beq_eq_false_iff_ne.2 (by omega)
      have hkI : (k : Int) < (L.length : Int) := by omega
      have hbkv : w.heap.size ≠ b := fun e => by have := h.lt b (.inl rfl); omega
      by_cases ho : okT L r = true
      · have e1 : takeE n L r = 0 := by simp [takeE, hm, ho]
        have e2 : takeS n L r = takeR L r.lo r.hi := by simp [takeS, hm, ho]
        have hR := (takeR_ok Hh.out.rise r0 r1 (hok.1 ho)).1
        rw [e1, e2]
        rw [htl] at hR ⊢
        rw [hoe, Bool.and_eq_true, decide_eq_true_eq, decide_eq_true_eq] at ho
        have t1 : decide (r.lo < x.lo) = false := by simp; omega
        have t2 : decide (x.hi < r.hi) = false := by simp; omega
        have HR := Lib.hid hR
        clear e1 e2 hx hk hal h hat hm htl hok hoe hrow ho hR hgc
        go_enter Try.func14, Try.ntmps14
        unfold Rg.val
        go_wp2_with fail
        refine hmay.mono ?_
        rintro e w2 ⟨rfl, hb2⟩
        have hb02 : Below w.heap.size w w2 := HbA.out.trans (hb2.mono HbA.out.size)
        have hbx2 := Hbx.out.below hb2
        have Hbx2 := Lib.hid hbx2
        obtain ⟨-, x0, x1⟩ := hbx2
        have hat2 := Hat.out _ (Hh.out.below hb02)
        have H02 := Lib.hid hb02
        clear hmay hb2 hb02
        go_wp2_with fail
        refine hat2.mono ?_
        rintro e w3 ⟨rfl, hb3⟩
        have hb03 : Below w.heap.size w w3 := H02.out.trans (hb3.mono H02.out.size)
        have hI := Hh.out.below hb03
        have c1 := hI.c1
        obtain ⟨g0, g1⟩ := Hrow.out _ hI
        have hbx3 := Hbx2.out.below hb3
        have Hbx3 := Lib.hid hbx3
        obtain ⟨-, y0, y1⟩ := hbx3
        have H03 := Lib.hid hb03
        clear hat2 hb3 hb03 hI x0 x1
        go_wp2_with fail
        go_quiet (fail)
        have hI := (Hh.out.below H03.out).drewN nq
        have hb0W : Below w.heap.size w (w3.drewN nq) := H03.out.trans ⟨rfl, rfl, rfl, Nat.le_refl _, fun _ _ => rfl⟩
        have hbxW : RBox (w3.drewN nq) w.heap.size r := Hbx3.out.keep rfl (Nat.le_refl _)
        have HI := Lib.hid hI
        have H0W := Lib.hid hb0W
        have HbxW := Lib.hid hbxW
        clear g0 g1 y0 y1 c1 hI hb0W hbxW
        go_wp2_with fail
        generalize w3.drewN nq = W at HI H0W HbxW ⊢
        obtain ⟨u, hu⟩ : ∃ u, w.heap.size = u := ⟨_, rfl⟩
        have HU := Lib.hid hu
        rw [hu] at HbxW ⊢
        have c1 : W.drew.cell? ⟨b, 1, none⟩ = some (.slice (some ⟨g, 0, none⟩) L.length cap) := HI.out.c1
        have hblW : b < W.heap.size := HI.out.lt b (.inl rfl)
        have hgW : g < W.heap.size := HI.out.lt g (.inr rfl)
        have hgb : g ≠ b := fun e => Hh.out.ne (by rw [e]; rfl)
        have hub : u ≠ b := by rw [← hu]; exact hbkv
        have hS0 : W.drew.cell? ⟨g, k * 2, none⟩ = some (.int .i64 x.lo) ∧ W.drew.cell? ⟨g, k * 2 + 1, none⟩ = some (.int .i64 x.hi) ∧ W.drew.cell? ⟨u, 0, none⟩ = some (.int .i64 r.lo) ∧ W.drew.cell? ⟨u, 1, none⟩ = some (.int .i64 r.hi) :=
          ⟨(Hrow.out _ HI.out).1, (Hrow.out _ HI.out).2, HbxW.out.2.1, HbxW.out.2.2⟩
        have hS1 : ∀ w' : World, w'.heap[g]? = W.heap[g]? → w'.heap[u]? = W.heap[u]? → w'.cell? ⟨g, k * 2, none⟩ = some (.int .i64 x.lo) ∧ w'.cell? ⟨g, k * 2 + 1, none⟩ = some (.int .i64 x.hi) ∧ w'.cell? ⟨u, 0, none⟩ = some (.int .i64 r.lo) ∧ w'.cell? ⟨u, 1, none⟩ = some (.int .i64 r.hi) := fun w' h1 h2 =>
          ⟨(World.cell?_of_block (a := ⟨g, k * 2, none⟩) h1).trans hS0.1, (World.cell?_of_block (a := ⟨g, k * 2 + 1, none⟩) h1).trans hS0.2.1, (World.cell?_of_block (a := ⟨u, 0, none⟩) h2).trans hS0.2.2.1, (World.cell?_of_block (a := ⟨u, 1, none⟩) h2).trans hS0.2.2.2⟩
        have huW : u < W.heap.size := HbxW.out.1
        have hS2 : ∀ w' : World, Below W.drew.heap.size W.drew w' → w'.cell? ⟨g, k * 2, none⟩ = some (.int .i64 x.lo) ∧ w'.cell? ⟨g, k * 2 + 1, none⟩ = some (.int .i64 x.hi) ∧ w'.cell? ⟨u, 0, none⟩ = some (.int .i64 r.lo) ∧ w'.cell? ⟨u, 1, none⟩ = some (.int .i64 r.hi) := fun w' hb => hS1 w' (hb.block g hgW) (hb.block u huW)
        have hS3 : ∀ w' : World, Moves (fun q => q = b ∨ q = W.heap.size) (W.drew.alloc (.cells #[.int .i64 x.lo, .int .i64 r.lo, .int .i64 r.hi, .int .i64 x.hi] 27)) w' → w'.cell? ⟨g, k * 2, none⟩ = some (.int .i64 x.lo) ∧ w'.cell? ⟨g, k * 2 + 1, none⟩ = some (.int .i64 x.hi) ∧ w'.cell? ⟨u, 0, none⟩ = some (.int .i64 r.lo) ∧ w'.cell? ⟨u, 1, none⟩ = some (.int .i64 r.hi) := fun w' hm =>
          hS1 w' ((hm.block g (by simp; omega) (by omega)).trans (Below.heap_alloc _ _ _ hgW)) ((hm.block u (by simp; omega) (by omega)).trans (Below.heap_alloc _ _ _ huW))
        have hIA : IsMap (W.drew.alloc (.cells #[.int .i64 x.lo, .int .i64 r.lo, .int .i64 r.hi, .int .i64 x.hi] 27)) b n (.slice (some ⟨g, 0, none⟩) L.length cap) L := HI.out.drew.alloc _
        have hput := put_any hIA Hx.out (gl := W.heap.size) (x := ⟨x.lo, r.lo⟩) (y := ⟨r.hi, x.hi⟩) ⟨heap_alloc_last W.drew _, rfl, by simp [maxLen]⟩ (fun hq => by have := HI.out.lt _ hq; omega) HR.out
        unfold Put at hput
        have hfin : ∀ w' v', IsMap w' b n v' (L.take k ++ (left2 ⟨x.lo, r.lo⟩ ⟨r.hi, x.hi⟩ ++ L.drop (k + 1))) → Moves (fun q => q = b ∨ q = W.heap.size) (W.drew.alloc (.cells #[.int .i64 x.lo, .int .i64 r.lo, .int .i64 r.hi, .int .i64 x.hi] 27)) w' → (∀ q, v'.ownBlock = some q → (W.drew.alloc (.cells #[.int .i64 x.lo, .int .i64 r.lo, .int .i64 r.hi, .int .i64 x.hi] 27)).heap.size ≤ q) → TurnedR w b n (.slice (some ⟨g, 0, none⟩) L.length cap) (L.take k ++ (left2 ⟨x.lo, r.lo⟩ ⟨r.hi, x.hi⟩ ++ L.drop (k + 1))) w' := fun w' v' h1 h2 h3 => by
          have hs := H0W.out.size
          refine ⟨v', h1, ?_, fun q hq => ?_⟩
          · refine Moves.trans (Moves.of_below (F := fun q => bfp b (.slice (some ⟨g, 0, none⟩) L.length cap) q) (H0W.out.trans ((Below.refl _ _).drew.alloc hs _))) h2 fun q hq => ?_
            rcases hq with hq | hq
            · exact .inl (.inl hq)
            · exact .inr (by omega)
          · rcases hq with hq | hq
            · exact .inl (.inl hq)
            · have := h3 q hq; simp at this; exact .inr (by omega)
        have HS2 := Lib.hid hS2
        have HS3 := Lib.hid hS3
        have Hput := Lib.hid hput
        have Hfin := Lib.hid hfin
        obtain ⟨z0, z1, z2, z3⟩ := hS0
        have hS0 := And.intro z0 (And.intro z1 (And.intro z2 z3))
        clear hS1 hS2 hS3 hIA hput hfin
      -- REGION
        refine wp_region_held_drew (S := fun w' => w'.cell? ⟨g, k * 2, none⟩ = some (.int .i64 x.lo) ∧ w'.cell? ⟨g, k * 2 + 1, none⟩ = some (.int .i64 x.hi) ∧ w'.cell? ⟨u, 0, none⟩ = some (.int .i64 r.lo) ∧ w'.cell? ⟨u, 1, none⟩ = some (.int .i64 r.hi)) (by kernel_rfl) hS0 (fun hHeld => ?_)
        refine wpAnyH_take (i := 0) (oi := ⟨_, _, _, _, _, _⟩) (v := .pointer (some ⟨b, 0, none⟩)) rfl (by kernel_rfl) (by kernel_rfl) (by kernel_rfl) (fun _ _ _ h => h) (Or.inl ⟨by rfl, fun w hS => by (obtain ⟨s0, s1, s2, s3⟩ := hS; go_simp)⟩) hHeld ?_
        try simp only [Act.put, List.setIfInBounds_toArray, List.set_cons_zero, List.set_cons_succ]
        refine wpAnyH_take (i := 1) (oi := ⟨_, _, _, _, _, _⟩) (v := .int .i64 (k : Int)) rfl (by kernel_rfl) (by kernel_rfl) (by kernel_rfl) (fun _ _ _ h => h) (Or.inl ⟨by rfl, fun w hS => by (obtain ⟨s0, s1, s2, s3⟩ := hS; go_simp)⟩) hHeld ?_
        try simp only [Act.put, List.setIfInBounds_toArray, List.set_cons_zero, List.set_cons_succ]
        refine wpAnyH_take (i := 2) (oi := ⟨_, _, _, _, _, _⟩) (v := .pointer (some ⟨b, 0, none⟩)) rfl (by kernel_rfl) (by kernel_rfl) (by kernel_rfl) (fun _ _ _ h => h) (Or.inl ⟨by rfl, fun w hS => by (obtain ⟨s0, s1, s2, s3⟩ := hS; go_simp)⟩) hHeld ?_
        try simp only [Act.put, List.setIfInBounds_toArray, List.set_cons_zero, List.set_cons_succ]
        refine wpAnyH_take (i := 3) (oi := ⟨_, _, _, _, _, _⟩) (v := .pointer (some ⟨b, 0, none⟩)) rfl (by kernel_rfl) (by kernel_rfl) (by kernel_rfl) (fun _ _ _ h => h) (Or.inl ⟨by rfl, fun w hS => by (obtain ⟨s0, s1, s2, s3⟩ := hS; go_simp)⟩) hHeld ?_
        try simp only [Act.put, List.setIfInBounds_toArray, List.set_cons_zero, List.set_cons_succ]
        refine wpAnyH_take (i := 4) (oi := ⟨_, _, _, _, _, _⟩) (v := .pointer (some ⟨b, 1, none⟩)) rfl (by kernel_rfl) (by kernel_rfl) (by kernel_rfl) (fun _ _ _ h => h) (Or.inl ⟨by rfl, fun w hS => by (obtain ⟨s0, s1, s2, s3⟩ := hS; go_simp)⟩) hHeld ?_
        try simp only [Act.put, List.setIfInBounds_toArray, List.set_cons_zero, List.set_cons_succ]
        refine wpAnyH_take (i := 6) (oi := ⟨_, _, _, _, _, _⟩) (v := .int .i64 (k : Int)) rfl (by kernel_rfl) (by kernel_rfl) (by kernel_rfl) (fun _ _ _ h => h) (Or.inl ⟨by rfl, fun w hS => by (obtain ⟨s0, s1, s2, s3⟩ := hS; go_simp)⟩) hHeld ?_
        try simp only [Act.put, List.setIfInBounds_toArray, List.set_cons_zero, List.set_cons_succ]
        refine wpAnyH_take (i := 10) (oi := ⟨_, _, _, _, _, _⟩) (v := .pointer (some ⟨u, 0, none⟩)) rfl (by kernel_rfl) (by kernel_rfl) (by kernel_rfl) (fun _ _ _ h => h) (Or.inl ⟨by rfl, fun w hS => by (obtain ⟨s0, s1, s2, s3⟩ := hS; go_simp)⟩) hHeld ?_
        try simp only [Act.put, List.setIfInBounds_toArray, List.set_cons_zero, List.set_cons_succ]
        refine wpAnyH_take (i := 11) (oi := ⟨_, _, _, _, _, _⟩) (v := .int .i64 r.lo) rfl (by kernel_rfl) (by kernel_rfl) (by kernel_rfl) (fun _ _ _ h => h) (Or.inl ⟨by rfl, fun w hS => by (obtain ⟨s0, s1, s2, s3⟩ := hS; go_simp)⟩) hHeld ?_
        try simp only [Act.put, List.setIfInBounds_toArray, List.set_cons_zero, List.set_cons_succ]
        refine wpAnyH_take (i := 13) (oi := ⟨_, _, _, _, _, _⟩) (v := .pointer (some ⟨u, 1, none⟩)) rfl (by kernel_rfl) (by kernel_rfl) (by kernel_rfl) (fun _ _ _ h => h) (Or.inl ⟨by rfl, fun w hS => by (obtain ⟨s0, s1, s2, s3⟩ := hS; go_simp)⟩) hHeld ?_
        try simp only [Act.put, List.setIfInBounds_toArray, List.set_cons_zero, List.set_cons_succ]
        refine wpAnyH_take (i := 14) (oi := ⟨_, _, _, _, _, _⟩) (v := .int .i64 r.hi) rfl (by kernel_rfl) (by kernel_rfl) (by kernel_rfl) (fun _ _ _ h => h) (Or.inl ⟨by rfl, fun w hS => by (obtain ⟨s0, s1, s2, s3⟩ := hS; go_simp)⟩) hHeld ?_
        try simp only [Act.put, List.setIfInBounds_toArray, List.set_cons_zero, List.set_cons_succ]
        refine wpAnyH_take (i := 15) (oi := ⟨_, _, _, _, _, _⟩) (v := .pointer (some ⟨b, 0, none⟩)) rfl (by kernel_rfl) (by kernel_rfl) (by kernel_rfl) (fun _ _ _ h => h) (Or.inl ⟨by rfl, fun w hS => by (obtain ⟨s0, s1, s2, s3⟩ := hS; go_simp)⟩) hHeld ?_
        try simp only [Act.put, List.setIfInBounds_toArray, List.set_cons_zero, List.set_cons_succ]
        refine wpAnyH_take (i := 16) (oi := ⟨_, _, _, _, _, _⟩) (v := .pointer (some ⟨b, 0, none⟩)) rfl (by kernel_rfl) (by kernel_rfl) (by kernel_rfl) (fun _ _ _ h => h) (Or.inl ⟨by rfl, fun w hS => by (obtain ⟨s0, s1, s2, s3⟩ := hS; go_simp)⟩) hHeld ?_
        try simp only [Act.put, List.setIfInBounds_toArray, List.set_cons_zero, List.set_cons_succ]
        refine wpAnyH_take (i := 17) (oi := ⟨_, _, _, _, _, _⟩) (v := .pointer (some ⟨b, 1, none⟩)) rfl (by kernel_rfl) (by kernel_rfl) (by kernel_rfl) (fun _ _ _ h => h) (Or.inl ⟨by rfl, fun w hS => by (obtain ⟨s0, s1, s2, s3⟩ := hS; go_simp)⟩) hHeld ?_
        try simp only [Act.put, List.setIfInBounds_toArray, List.set_cons_zero, List.set_cons_succ]
        refine wpAnyH_take (i := 19) (oi := ⟨_, _, _, _, _, _⟩) (v := .int .i64 (k : Int)) rfl (by kernel_rfl) (by kernel_rfl) (by kernel_rfl) (fun _ _ _ h => h) (Or.inl ⟨by rfl, fun w hS => by (obtain ⟨s0, s1, s2, s3⟩ := hS; go_simp)⟩) hHeld ?_
        try simp only [Act.put, List.setIfInBounds_toArray, List.set_cons_zero, List.set_cons_succ]
        refine wpAnyH_ready (rs := [5, 18]) (by kernel_rfl) (by simp) (AllReadyH.cons (o := ⟨_, _, _, _, _, _⟩) rfl (fun K hK => ?_) (AllReadyH.cons (o := ⟨_, _, _, _, _, _⟩) rfl (fun K hK => ?_) (AllReadyH.nil)))
        · go_simp
          refine hK.out _ _ hHeld (fun hHeld => ?_)
          clear hK K
          try simp only [Act.put, List.setIfInBounds_toArray, List.set_cons_zero, List.set_cons_succ]
          refine wpAnyH_take (i := 7) (oi := ⟨_, _, _, _, _, _⟩) (v := .pointer (some ⟨g, k * 2, none⟩)) rfl (by kernel_rfl) (by kernel_rfl) (by kernel_rfl) (fun _ _ _ h => h) (Or.inl ⟨by rfl, fun w hS => by (obtain ⟨s0, s1, s2, s3⟩ := hS; go_simp)⟩) hHeld ?_
          try simp only [Act.put, List.setIfInBounds_toArray, List.set_cons_zero, List.set_cons_succ]
          refine wpAnyH_take (i := 8) (oi := ⟨_, _, _, _, _, _⟩) (v := .pointer (some ⟨g, k * 2, none⟩)) rfl (by kernel_rfl) (by kernel_rfl) (by kernel_rfl) (fun _ _ _ h => h) (Or.inl ⟨by rfl, fun w hS => by (obtain ⟨s0, s1, s2, s3⟩ := hS; go_simp)⟩) hHeld ?_
          try simp only [Act.put, List.setIfInBounds_toArray, List.set_cons_zero, List.set_cons_succ]
          refine wpAnyH_take (i := 9) (oi := ⟨_, _, _, _, _, _⟩) (v := .int .i64 x.lo) rfl (by kernel_rfl) (by kernel_rfl) (by kernel_rfl) (fun _ _ _ h => h) (Or.inl ⟨by rfl, fun w hS => by (obtain ⟨s0, s1, s2, s3⟩ := hS; go_simp)⟩) hHeld ?_
          try simp only [Act.put, List.setIfInBounds_toArray, List.set_cons_zero, List.set_cons_succ]
          refine wpAnyH_take (i := 12) (oi := ⟨_, _, _, _, _, _⟩) (v := .agg #[.int .i64 x.lo, .int .i64 r.lo]) rfl (by kernel_rfl) (by kernel_rfl) (by kernel_rfl) (fun _ _ _ h => h) (Or.inl ⟨by rfl, fun w hS => by (obtain ⟨s0, s1, s2, s3⟩ := hS; go_simp)⟩) hHeld ?_
          try simp only [Act.put, List.setIfInBounds_toArray, List.set_cons_zero, List.set_cons_succ]
          refine wpAnyH_ready (rs := [18]) (by kernel_rfl) (by simp) (AllReadyH.cons (o := ⟨_, _, _, _, _, _⟩) rfl (fun K hK => ?_) (AllReadyH.nil))
          go_simp
          refine hK.out _ _ hHeld (fun hHeld => ?_)
          clear hK K
          try simp only [Act.put, List.setIfInBounds_toArray, List.set_cons_zero, List.set_cons_succ]
          refine wpAnyH_take (i := 20) (oi := ⟨_, _, _, _, _, _⟩) (v := .pointer (some ⟨g, k * 2, none⟩)) rfl (by kernel_rfl) (by kernel_rfl) (by kernel_rfl) (fun _ _ _ h => h) (Or.inl ⟨by rfl, fun w hS => by (obtain ⟨s0, s1, s2, s3⟩ := hS; go_simp)⟩) hHeld ?_
          try simp only [Act.put, List.setIfInBounds_toArray, List.set_cons_zero, List.set_cons_succ]
          refine wpAnyH_take (i := 21) (oi := ⟨_, _, _, _, _, _⟩) (v := .pointer (some ⟨g, k * 2 + 1, none⟩)) rfl (by kernel_rfl) (by kernel_rfl) (by kernel_rfl) (fun _ _ _ h => h) (Or.inl ⟨by rfl, fun w hS => by (obtain ⟨s0, s1, s2, s3⟩ := hS; go_simp)⟩) hHeld ?_
          try simp only [Act.put, List.setIfInBounds_toArray, List.set_cons_zero, List.set_cons_succ]
          refine wpAnyH_take (i := 22) (oi := ⟨_, _, _, _, _, _⟩) (v := .int .i64 x.hi) rfl (by kernel_rfl) (by kernel_rfl) (by kernel_rfl) (fun _ _ _ h => h) (Or.inl ⟨by rfl, fun w hS => by (obtain ⟨s0, s1, s2, s3⟩ := hS; go_simp)⟩) hHeld ?_
          try simp only [Act.put, List.setIfInBounds_toArray, List.set_cons_zero, List.set_cons_succ]
          refine wpAnyH_take (i := 23) (oi := ⟨_, _, _, _, _, _⟩) (v := .agg #[.int .i64 r.hi, .int .i64 x.hi]) rfl (by kernel_rfl) (by kernel_rfl) (by kernel_rfl) (fun _ _ _ h => h) (Or.inl ⟨by rfl, fun w hS => by (obtain ⟨s0, s1, s2, s3⟩ := hS; go_simp)⟩) hHeld ?_
          try simp only [Act.put, List.setIfInBounds_toArray, List.set_cons_zero, List.set_cons_succ]
          refine wpAnyH_ready (rs := [24]) (by kernel_rfl) (by simp) (AllReadyH.cons (o := ⟨_, _, _, _, _, _⟩) rfl (fun K hK => ?_) (AllReadyH.nil))
          go_simp
          refine hK.out _ _ (HS2.out _ ((Below.refl _ _).alloc (Nat.le_refl _) _)) (fun hHeld => ?_)
          clear hK K
          try simp only [Act.put, List.setIfInBounds_toArray, List.set_cons_zero, List.set_cons_succ]
          refine wpAnyH_ready (rs := [25]) (by kernel_rfl) (by simp) (AllReadyH.cons (o := ⟨_, _, _, _, _, _⟩) rfl (fun K hK => ?_) (AllReadyH.nil))
          go_simp
          go_at_call 31
          refine Hput.out.mono ?_
          rintro e w3 ⟨rfl, v3, hI3, hM3, hv3⟩
          refine hK.out _ _ (HS3.out _ hM3) (fun _ => ?_)
          clear hK K
          try simp only [Act.put, List.setIfInBounds_toArray, List.set_cons_zero, List.set_cons_succ]
          refine wpAnyH_done (by kernel_rfl) ?_ _
          clear hHeld
          have HT := Lib.hid (Hfin.out _ _ hI3 hM3 hv3)
          clear hI3 hM3 hv3
          go_wp2_with fail
          go_ret
          exact ⟨rfl, HT.out⟩
        · go_simp
          refine hK.out _ _ hHeld (fun hHeld => ?_)
          clear hK K
          try simp only [Act.put, List.setIfInBounds_toArray, List.set_cons_zero, List.set_cons_succ]
          refine wpAnyH_take (i := 20) (oi := ⟨_, _, _, _, _, _⟩) (v := .pointer (some ⟨g, k * 2, none⟩)) rfl (by kernel_rfl) (by kernel_rfl) (by kernel_rfl) (fun _ _ _ h => h) (Or.inl ⟨by rfl, fun w hS => by (obtain ⟨s0, s1, s2, s3⟩ := hS; go_simp)⟩) hHeld ?_
          try simp only [Act.put, List.setIfInBounds_toArray, List.set_cons_zero, List.set_cons_succ]
          refine wpAnyH_take (i := 21) (oi := ⟨_, _, _, _, _, _⟩) (v := .pointer (some ⟨g, k * 2 + 1, none⟩)) rfl (by kernel_rfl) (by kernel_rfl) (by kernel_rfl) (fun _ _ _ h => h) (Or.inl ⟨by rfl, fun w hS => by (obtain ⟨s0, s1, s2, s3⟩ := hS; go_simp)⟩) hHeld ?_
          try simp only [Act.put, List.setIfInBounds_toArray, List.set_cons_zero, List.set_cons_succ]
          refine wpAnyH_take (i := 22) (oi := ⟨_, _, _, _, _, _⟩) (v := .int .i64 x.hi) rfl (by kernel_rfl) (by kernel_rfl) (by kernel_rfl) (fun _ _ _ h => h) (Or.inl ⟨by rfl, fun w hS => by (obtain ⟨s0, s1, s2, s3⟩ := hS; go_simp)⟩) hHeld ?_
          try simp only [Act.put, List.setIfInBounds_toArray, List.set_cons_zero, List.set_cons_succ]
          refine wpAnyH_take (i := 23) (oi := ⟨_, _, _, _, _, _⟩) (v := .agg #[.int .i64 r.hi, .int .i64 x.hi]) rfl (by kernel_rfl) (by kernel_rfl) (by kernel_rfl) (fun _ _ _ h => h) (Or.inl ⟨by rfl, fun w hS => by (obtain ⟨s0, s1, s2, s3⟩ := hS; go_simp)⟩) hHeld ?_
          try simp only [Act.put, List.setIfInBounds_toArray, List.set_cons_zero, List.set_cons_succ]
          refine wpAnyH_ready (rs := [5]) (by kernel_rfl) (by simp) (AllReadyH.cons (o := ⟨_, _, _, _, _, _⟩) rfl (fun K hK => ?_) (AllReadyH.nil))
          go_simp
          refine hK.out _ _ hHeld (fun hHeld => ?_)
          clear hK K
          try simp only [Act.put, List.setIfInBounds_toArray, List.set_cons_zero, List.set_cons_succ]
          refine wpAnyH_take (i := 7) (oi := ⟨_, _, _, _, _, _⟩) (v := .pointer (some ⟨g, k * 2, none⟩)) rfl (by kernel_rfl) (by kernel_rfl) (by kernel_rfl) (fun _ _ _ h => h) (Or.inl ⟨by rfl, fun w hS => by (obtain ⟨s0, s1, s2, s3⟩ := hS; go_simp)⟩) hHeld ?_
          try simp only [Act.put, List.setIfInBounds_toArray, List.set_cons_zero, List.set_cons_succ]
          refine wpAnyH_take (i := 8) (oi := ⟨_, _, _, _, _, _⟩) (v := .pointer (some ⟨g, k * 2, none⟩)) rfl (by kernel_rfl) (by kernel_rfl) (by kernel_rfl) (fun _ _ _ h => h) (Or.inl ⟨by rfl, fun w hS => by (obtain ⟨s0, s1, s2, s3⟩ := hS; go_simp)⟩) hHeld ?_
          try simp only [Act.put, List.setIfInBounds_toArray, List.set_cons_zero, List.set_cons_succ]
          refine wpAnyH_take (i := 9) (oi := ⟨_, _, _, _, _, _⟩) (v := .int .i64 x.lo) rfl (by kernel_rfl) (by kernel_rfl) (by kernel_rfl) (fun _ _ _ h => h) (Or.inl ⟨by rfl, fun w hS => by (obtain ⟨s0, s1, s2, s3⟩ := hS; go_simp)⟩) hHeld ?_
          try simp only [Act.put, List.setIfInBounds_toArray, List.set_cons_zero, List.set_cons_succ]
          refine wpAnyH_take (i := 12) (oi := ⟨_, _, _, _, _, _⟩) (v := .agg #[.int .i64 x.lo, .int .i64 r.lo]) rfl (by kernel_rfl) (by kernel_rfl) (by kernel_rfl) (fun _ _ _ h => h) (Or.inl ⟨by rfl, fun w hS => by (obtain ⟨s0, s1, s2, s3⟩ := hS; go_simp)⟩) hHeld ?_
          try simp only [Act.put, List.setIfInBounds_toArray, List.set_cons_zero, List.set_cons_succ]
          refine wpAnyH_ready (rs := [24]) (by kernel_rfl) (by simp) (AllReadyH.cons (o := ⟨_, _, _, _, _, _⟩) rfl (fun K hK => ?_) (AllReadyH.nil))
          go_simp
          refine hK.out _ _ (HS2.out _ ((Below.refl _ _).alloc (Nat.le_refl _) _)) (fun hHeld => ?_)
          clear hK K
          try simp only [Act.put, List.setIfInBounds_toArray, List.set_cons_zero, List.set_cons_succ]
          refine wpAnyH_ready (rs := [25]) (by kernel_rfl) (by simp) (AllReadyH.cons (o := ⟨_, _, _, _, _, _⟩) rfl (fun K hK => ?_) (AllReadyH.nil))
          go_simp
          go_at_call 31
          refine Hput.out.mono ?_
          rintro e w3 ⟨rfl, v3, hI3, hM3, hv3⟩
          refine hK.out _ _ (HS3.out _ hM3) (fun _ => ?_)
          clear hK K
          try simp only [Act.put, List.setIfInBounds_toArray, List.set_cons_zero, List.set_cons_succ]
          refine wpAnyH_done (by kernel_rfl) ?_ _
          clear hHeld
          have HT := Lib.hid (Hfin.out _ _ hI3 hM3 hv3)
          clear hI3 hM3 hv3
          go_wp2_with fail
          go_ret
          exact ⟨rfl, HT.out⟩
      -- REGION END
      · have e1 : takeE n L r = 4 := by simp [takeE, hm, ho]
        have e2 : takeS n L r = L := by simp [takeS, ho]
        rw [e1, e2]
        rw [hoe, Bool.and_eq_true, decide_eq_true_eq, decide_eq_true_eq] at ho
        clear e1 e2 hx hk hal h hat hm htl hok hoe hrow hgc
        by_cases ho1 : r.lo < x.lo
        · have t1 : decide (r.lo < x.lo) = true := by simpa using ho1
          clear ho
          go_enter Try.func14, Try.ntmps14
          unfold Rg.val
          go_wp2_with fail
          refine hmay.mono ?_
          rintro e w2 ⟨rfl, hb2⟩
          have hb02 : Below w.heap.size w w2 := HbA.out.trans (hb2.mono HbA.out.size)
          have hbx2 := Hbx.out.below hb2
          have Hbx2 := Lib.hid hbx2
          obtain ⟨-, x0, x1⟩ := hbx2
          have hat2 := Hat.out _ (Hh.out.below hb02)
          have H02 := Lib.hid hb02
          clear hmay hb2 hb02
          go_wp2_with fail
          refine hat2.mono ?_
          rintro e w3 ⟨rfl, hb3⟩
          have hb03 : Below w.heap.size w w3 := H02.out.trans (hb3.mono H02.out.size)
          have hI := Hh.out.below hb03
          have c1 := hI.c1
          obtain ⟨g0, g1⟩ := Hrow.out _ hI
          have hbx3 := Hbx2.out.below hb3
          obtain ⟨-, y0, y1⟩ := hbx3
          have HQ := Lib.hid (fun nq => TurnedR.quiet (w' := w3.drewN nq) Hh.out (hb03.trans ⟨rfl, rfl, rfl, Nat.le_refl _, fun _ _ => rfl⟩))
          clear hat2 hb3 hb03 hI x0 x1
          go_wp2_with fail
          go_quiet (fail)
          have HT := Lib.hid (HQ.out nq)
          clear g0 g1 y0 y1 c1
          go_wp2_with fail
          go_ret
          exact ⟨rfl, HT.out⟩
        · have t1 : decide (r.lo < x.lo) = false := by simpa using ho1
          have t2 : decide (x.hi < r.hi) = true := by simp; omega
          clear ho
          go_enter Try.func14, Try.ntmps14
          unfold Rg.val
          go_wp2_with fail
          refine hmay.mono ?_
          rintro e w2 ⟨rfl, hb2⟩
          have hb02 : Below w.heap.size w w2 := HbA.out.trans (hb2.mono HbA.out.size)
          have hbx2 := Hbx.out.below hb2
          have Hbx2 := Lib.hid hbx2
          obtain ⟨-, x0, x1⟩ := hbx2
          have hat2 := Hat.out _ (Hh.out.below hb02)
          have H02 := Lib.hid hb02
          clear hmay hb2 hb02
          go_wp2_with fail
          refine hat2.mono ?_
          rintro e w3 ⟨rfl, hb3⟩
          have hb03 : Below w.heap.size w w3 := H02.out.trans (hb3.mono H02.out.size)
          have hI := Hh.out.below hb03
          have c1 := hI.c1
          obtain ⟨g0, g1⟩ := Hrow.out _ hI
          have hbx3 := Hbx2.out.below hb3
          obtain ⟨-, y0, y1⟩ := hbx3
          have HQ := Lib.hid (fun nq => TurnedR.quiet (w' := w3.drewN nq) Hh.out (hb03.trans ⟨rfl, rfl, rfl, Nat.le_refl _, fun _ _ => rfl⟩))
          clear hat2 hb3 hb03 hI x0 x1
          go_wp2_with fail
          go_quiet (fail)
          have HT := Lib.hid (HQ.out nq)
          clear g0 g1 y0 y1 c1
          go_wp2_with fail
          go_ret
          exact ⟨rfl, HT.out⟩
  · have e1 : takeE n L r = mayE n r := by simp [takeE, hm]
    have e2 : takeS n L r = L := by simp [takeS, hm]
    have hne : (mayE n r != 0) = true := by simpa using hm
    rw [e1, e2]
    have Hh := Lib.hid h
    clear e1 e2 hm h
    generalize mayE n r = ee at hmay hne ⊢
    unfold Rg.val at hmay
    go_enter Try.func14, Try.ntmps14
    unfold Rg.val
    go_wp2_with fail
    refine hmay.mono ?_
    rintro e w2 ⟨rfl, hb2⟩
    have HT := Lib.hid (TurnedR.quiet Hh.out (HbA.out.trans (hb2.mono HbA.out.size)))
    clear hmay hb2
    go_wp2_with fail
    go_ret
    exact ⟨rfl, HT.out⟩
end
end Go.Proofs.Ytajbodfdohhhoaa
