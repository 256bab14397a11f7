/- The service gives a hold. -/
import Derived.Test.YtfjfkmoofmncnaaDoorGm
namespace Go.Proofs.YtfjfkmoofmncnaaDoor
open Go.RowKit
section
variable {w w' : World} {b tb kb mb n : Nat} {wv : Value} {s : GS}
theorem below_undrew {X W : World} (h : Below X.drew.heap.size X.drew W) : Below X.heap.size X W := ⟨h.os, h.tape, h.output, h.size, h.block⟩
/-- The hold that lies in a box. -/
structure HBox (w : World) (B : Nat) (x : Hd) : Prop where
  a : w.cell? ⟨B, 0, none⟩ = some (.int .i64 (x.a : Int))
  b : w.cell? ⟨B, 1, none⟩ = some (.int .i64 (x.b : Int))
  c : w.cell? ⟨B, 2, none⟩ = some (.int .i64 (x.c : Int))
  m : w.cell? ⟨B, 3, none⟩ = some (.int .i64 (x.m : Int))
theorem HBox.keep {B : Nat} {x : Hd} (h : HBox w B x) (hk : w'.heap[B]? = w.heap[B]?) : HBox w' B x :=
  ⟨(World.cell?_of_block (a := ⟨B, 0, none⟩) hk).trans h.a, (World.cell?_of_block (a := ⟨B, 1, none⟩) hk).trans h.b, (World.cell?_of_block (a := ⟨B, 2, none⟩) hk).trans h.c, (World.cell?_of_block (a := ⟨B, 3, none⟩) hk).trans h.m⟩
theorem HBox.lt {B : Nat} {x : Hd} (h : HBox w B x) : B < w.heap.size := World.block_lt_of_cell? w _ h.a
theorem HBox.below {B : Nat} {x : Hd} (h : HBox w B x) (hb : Below w.heap.size w w') : HBox w' B x := h.keep (hb.block B h.lt)
theorem HBox.made (w : World) (x : Hd) (T : TypeId) : HBox (w.alloc (.cells #[.int .i64 (x.a : Int), .int .i64 (x.b : Int), .int .i64 (x.c : Int), .int .i64 (x.m : Int)] T)) w.heap.size x := by
  refine ⟨?_, ?_, ?_, ?_⟩ <;> (rw [World.cell?_alloc_new]; rfl)
set_option maxRecDepth 100000 in
theorem give1_any {B : Nat} {y : Hd} (h : HBox w B y) (x : Hd) : Calls Tryd.prog 140 #[x.val, .pointer (some ⟨B, 0, none⟩)] w fun e w' => e = .returned (.bool (clashB x y)) ∧ Below w.heap.size w w' := by
  have hb : Below w.heap.size w (w.alloc (.cells #[.int .i64 (x.a : Int), .int .i64 (x.b : Int), .int .i64 (x.c : Int), .int .i64 (x.m : Int)] 57)) := (Below.refl _ _).alloc (Nat.le_refl _) _
  have h1 := h.below hb
  have e0 := h1.a
  have e1 := h1.b
  have e2 := h1.c
  have e3 := h1.m
  have HB := Lib.hid hb
  have hcl := fun W => clash_any (w := W) x y
  clear hb h1 h
  unfold Hd.val at hcl ⊢
  go_enter Tryd.func140, Tryd.ntmps140
  go_wp2_with (go_at_call 141; refine (hcl _).mono ?_; clear hcl; rintro e w1 ⟨rfl, hb1⟩)
  go_ret
  exact ⟨rfl, HB.out.trans (hb1.mono HB.out.size)⟩
set_option maxRecDepth 100000 in
set_option maxHeartbeats 4000000 in
theorem give_no (h : IsSvc w b tb kb mb wv n s) (hs : s.Ok) (x : Hd) (l : List Hd) {lv : Value} (ho : w.ownsRow 0 57 4 lv l.length (hrows l)) (hl : l.length ≤ 1000) (hf : freeB s.R x l = false) :
    Calls Tryd.prog 123 #[.pointer (some ⟨b, 0, none⟩), x.val, lv] w fun e w' => e = .returned (.tuple #[.int .i64 0, .int .i64 0, .bool true]) ∧ Below w.heap.size w w' := by
  obtain ⟨X, hX⟩ : ∃ X, X = w.alloc (.cells #[.int .i64 (x.a : Int), .int .i64 (x.b : Int), .int .i64 (x.c : Int), .int .i64 (x.m : Int)] 57) := ⟨_, rfl⟩
  have hb : Below w.heap.size w X := by rw [hX]; exact (Below.refl _ _).alloc (Nat.le_refl _) _
  have hx : HBox X w.heap.size x := by rw [hX]; exact HBox.made w x 57
  have hbl := h.lt b (.inl rfl)
  have hS1 : IsSvc X.drew b tb kb mb wv n s := (h.below hb).keep fun _ _ => rfl
  have hxd : HBox X.drew w.heap.size x := hx.keep rfl
  have hod : X.drew.ownsRow 0 57 4 lv l.length (hrows l) := ownsRow_keep ho fun k hk => hb.block k (ho.lt k hk).2
  have hco := contains_any hod (by omega) 140 #[.pointer (some ⟨w.heap.size, 0, none⟩)] (fun o => clashB o x) (enters_of Tryd.func140 (by kernel_rfl) rfl)
    (fun y W _ hB => give1_any (hxd.below hB) y)
  have hag := fun (W : World) (hB : Below X.drew.heap.size X.drew W) => against_any (hS1.tab.keep (hB.block tb hS1.tab.lt)) hs.R x
  obtain ⟨av, cv, rfl⟩ := row_lens ho
  have hd0 : ∀ W, Below X.drew.heap.size X.drew W → W.cell? ⟨b, 0, none⟩ = some (.pointer (some ⟨tb, 0, none⟩)) ∧ W.cell? ⟨w.heap.size, 0, none⟩ = some (.int .i64 (x.a : Int)) ∧ W.cell? ⟨w.heap.size, 1, none⟩ = some (.int .i64 (x.b : Int)) ∧ W.cell? ⟨w.heap.size, 2, none⟩ = some (.int .i64 (x.c : Int)) ∧ W.cell? ⟨w.heap.size, 3, none⟩ = some (.int .i64 (x.m : Int)) := fun W hB => by
    have h1 := hS1.below hB
    have h2 := hxd.below hB
    exact ⟨h1.c0, h2.a, h2.b, h2.c, h2.m⟩
  have hz := hd0 _ (Below.refl _ _)
  have Hd0 := Lib.hid hd0
  have HX := Lib.hid hX
  have HB := Lib.hid hb
  have HF := Lib.hid hf
  clear h hS1 hb hx hxd hod hd0 ho hX hf
  unfold Hd.val at hag ⊢
  go_enter Tryd.func123, Tryd.ntmps123
  go_wp2_with fail
  rw [← HX.out]
  have hmix : Tryd.prog.follows .mixedOrders = true := by kernel_rfl
  cases hcl : l.any (fun o => clashB o x) with
  | true =>
    rw [hcl] at hco
    clear hcl
    refine wp_region_held_drew (S := fun W => W.cell? ⟨b, 0, none⟩ = some (.pointer (some ⟨tb, 0, none⟩)) ∧ W.cell? ⟨w.heap.size, 0, none⟩ = some (.int .i64 (x.a : Int)) ∧ W.cell? ⟨w.heap.size, 1, none⟩ = some (.int .i64 (x.b : Int)) ∧ W.cell? ⟨w.heap.size, 2, none⟩ = some (.int .i64 (x.c : Int)) ∧ W.cell? ⟨w.heap.size, 3, none⟩ = some (.int .i64 (x.m : Int))) hmix hz (fun hHeld => ?_)
    refine wpAnyH_take (i := 0) (oi := ⟨_, _, _, _, _, _⟩) (v := .slice av l.length cv) rfl (by kernel_rfl) (by kernel_rfl) (by kernel_rfl) (fun _ _ _ h => h) (Or.inl ⟨by rfl, fun _ _ => rfl⟩) hHeld ?_
    try simp only [Act.put, List.setIfInBounds_toArray, List.set_cons_zero, List.set_cons_succ]
    refine wpAnyH_take (i := 1) (oi := ⟨_, _, _, _, _, _⟩) (v := _) rfl (by kernel_rfl) (by kernel_rfl) (by kernel_rfl) (fun _ _ _ h => h) (Or.inl ⟨by rfl, fun _ _ => rfl⟩) hHeld ?_
    try simp only [Act.put, List.setIfInBounds_toArray, List.set_cons_zero, List.set_cons_succ]
    refine wpAnyH_ready (rs := [2]) (by kernel_rfl) (by simp) (AllReadyH.cons (o := ⟨_, _, _, _, _, _⟩) rfl (fun K hK => ?_) AllReadyH.nil)
    rw [if_pos (by rfl)]
    go_simp
    refine hco.mono ?_
    rintro e w1 ⟨rfl, hb1⟩
    refine hK.out _ _ (Hd0.out _ hb1) (fun hHeld => ?_)
    clear hK K hco
    try simp only [Act.put, List.setIfInBounds_toArray, List.set_cons_zero, List.set_cons_succ]
    refine wpAnyH_take (i := 3) (oi := ⟨_, _, _, _, _, _⟩) (v := .bool true) rfl (by kernel_rfl) (by kernel_rfl) (by kernel_rfl) (fun _ _ _ h => h) (Or.inl ⟨by rfl, fun _ _ => rfl⟩) hHeld ?_
    try simp only [Act.put, List.setIfInBounds_toArray, List.set_cons_zero, List.set_cons_succ]
    refine wpAnyH_take (i := 4) (oi := ⟨_, _, _, _, _, _⟩) (v := undef) rfl (by kernel_rfl) (by kernel_rfl) (by kernel_rfl) (fun _ _ _ h => h) (Or.inr ⟨by rfl, rfl⟩) hHeld ?_
    try simp only [Act.put, List.setIfInBounds_toArray, List.set_cons_zero, List.set_cons_succ]
    refine wpAnyH_take (i := 5) (oi := ⟨_, _, _, _, _, _⟩) (v := undef) rfl (by kernel_rfl) (by kernel_rfl) (by kernel_rfl) (fun _ _ _ h => h) (Or.inr ⟨by rfl, rfl⟩) hHeld ?_
    try simp only [Act.put, List.setIfInBounds_toArray, List.set_cons_zero, List.set_cons_succ]
    refine wpAnyH_take (i := 6) (oi := ⟨_, _, _, _, _, _⟩) (v := undef) rfl (by kernel_rfl) (by kernel_rfl) (by kernel_rfl) (fun _ _ _ h => h) (Or.inr ⟨by rfl, rfl⟩) hHeld ?_
    try simp only [Act.put, List.setIfInBounds_toArray, List.set_cons_zero, List.set_cons_succ]
    refine wpAnyH_take (i := 7) (oi := ⟨_, _, _, _, _, _⟩) (v := undef) rfl (by kernel_rfl) (by kernel_rfl) (by kernel_rfl) (fun _ _ _ h => h) (Or.inr ⟨by rfl, rfl⟩) hHeld ?_
    try simp only [Act.put, List.setIfInBounds_toArray, List.set_cons_zero, List.set_cons_succ]
    refine wpAnyH_take (i := 8) (oi := ⟨_, _, _, _, _, _⟩) (v := undef) rfl (by kernel_rfl) (by kernel_rfl) (by kernel_rfl) (fun _ _ _ h => h) (Or.inr ⟨by rfl, rfl⟩) hHeld ?_
    try simp only [Act.put, List.setIfInBounds_toArray, List.set_cons_zero, List.set_cons_succ]
    refine wpAnyH_take (i := 9) (oi := ⟨_, _, _, _, _, _⟩) (v := undef) rfl (by kernel_rfl) (by kernel_rfl) (by kernel_rfl) (fun _ _ _ h => h) (Or.inr ⟨by rfl, rfl⟩) hHeld ?_
    try simp only [Act.put, List.setIfInBounds_toArray, List.set_cons_zero, List.set_cons_succ]
    refine wpAnyH_take (i := 10) (oi := ⟨_, _, _, _, _, _⟩) (v := undef) rfl (by kernel_rfl) (by kernel_rfl) (by kernel_rfl) (fun _ _ _ h => h) (Or.inr ⟨by rfl, rfl⟩) hHeld ?_
    try simp only [Act.put, List.setIfInBounds_toArray, List.set_cons_zero, List.set_cons_succ]
    refine wpAnyH_take (i := 11) (oi := ⟨_, _, _, _, _, _⟩) (v := undef) rfl (by kernel_rfl) (by kernel_rfl) (by kernel_rfl) (fun _ _ _ h => h) (Or.inr ⟨by rfl, rfl⟩) hHeld ?_
    try simp only [Act.put, List.setIfInBounds_toArray, List.set_cons_zero, List.set_cons_succ]
    refine wpAnyH_take (i := 12) (oi := ⟨_, _, _, _, _, _⟩) (v := undef) rfl (by kernel_rfl) (by kernel_rfl) (by kernel_rfl) (fun _ _ _ h => h) (Or.inr ⟨by rfl, rfl⟩) hHeld ?_
    try simp only [Act.put, List.setIfInBounds_toArray, List.set_cons_zero, List.set_cons_succ]
    refine wpAnyH_take (i := 13) (oi := ⟨_, _, _, _, _, _⟩) (v := .bool true) rfl (by kernel_rfl) (by kernel_rfl) (by kernel_rfl) (fun _ _ _ h => h) (Or.inl ⟨by rfl, fun _ _ => rfl⟩) hHeld ?_
    try simp only [Act.put, List.setIfInBounds_toArray, List.set_cons_zero, List.set_cons_succ]
    refine wpAnyH_done (by kernel_rfl) ?_ _
    go_wp2_with fail
    go_ret3
    exact ⟨rfl, HB.out.trans ((below_undrew hb1).mono HB.out.size)⟩
  | false =>
    rw [hcl] at hco
    have hpos : 0 < (someOf s.R x.a x.b (agP x) 8).length := by
      have h1 := HF.out
      unfold freeB at h1
      rw [hcl] at h1
      simpa [agB, List.length_pos_iff] using h1
    clear hcl
    refine wp_region_held_drew (S := fun W => W.cell? ⟨b, 0, none⟩ = some (.pointer (some ⟨tb, 0, none⟩)) ∧ W.cell? ⟨w.heap.size, 0, none⟩ = some (.int .i64 (x.a : Int)) ∧ W.cell? ⟨w.heap.size, 1, none⟩ = some (.int .i64 (x.b : Int)) ∧ W.cell? ⟨w.heap.size, 2, none⟩ = some (.int .i64 (x.c : Int)) ∧ W.cell? ⟨w.heap.size, 3, none⟩ = some (.int .i64 (x.m : Int))) hmix hz (fun hHeld => ?_)
    refine wpAnyH_take (i := 0) (oi := ⟨_, _, _, _, _, _⟩) (v := .slice av l.length cv) rfl (by kernel_rfl) (by kernel_rfl) (by kernel_rfl) (fun _ _ _ h => h) (Or.inl ⟨by rfl, fun _ _ => rfl⟩) hHeld ?_
    try simp only [Act.put, List.setIfInBounds_toArray, List.set_cons_zero, List.set_cons_succ]
    refine wpAnyH_take (i := 1) (oi := ⟨_, _, _, _, _, _⟩) (v := _) rfl (by kernel_rfl) (by kernel_rfl) (by kernel_rfl) (fun _ _ _ h => h) (Or.inl ⟨by rfl, fun _ _ => rfl⟩) hHeld ?_
    try simp only [Act.put, List.setIfInBounds_toArray, List.set_cons_zero, List.set_cons_succ]
    refine wpAnyH_ready (rs := [2]) (by kernel_rfl) (by simp) (AllReadyH.cons (o := ⟨_, _, _, _, _, _⟩) rfl (fun K hK => ?_) AllReadyH.nil)
    rw [if_pos (by rfl)]
    go_simp
    refine hco.mono ?_
    rintro e w1 ⟨rfl, hb1⟩
    refine hK.out _ _ (Hd0.out _ hb1) (fun hHeld => ?_)
    clear hK K hco
    try simp only [Act.put, List.setIfInBounds_toArray, List.set_cons_zero, List.set_cons_succ]
    refine wpAnyH_take (i := 3) (oi := ⟨_, _, _, _, _, _⟩) (v := .bool false) rfl (by kernel_rfl) (by kernel_rfl) (by kernel_rfl) (fun _ _ _ h => h) (Or.inl ⟨by rfl, fun _ _ => rfl⟩) hHeld ?_
    try simp only [Act.put, List.setIfInBounds_toArray, List.set_cons_zero, List.set_cons_succ]
    refine wpAnyH_take (i := 4) (oi := ⟨_, _, _, _, _, _⟩) (v := .pointer (some ⟨b, 0, none⟩)) rfl (by kernel_rfl) (by kernel_rfl) (by kernel_rfl) (fun _ _ _ h => h) (Or.inl ⟨by rfl, fun _ _ => rfl⟩) hHeld ?_
    try simp only [Act.put, List.setIfInBounds_toArray, List.set_cons_zero, List.set_cons_succ]
    refine wpAnyH_take (i := 5) (oi := ⟨_, _, _, _, _, _⟩) (v := .pointer (some ⟨b, 0, none⟩)) rfl (by kernel_rfl) (by kernel_rfl) (by kernel_rfl) (fun _ _ _ h => h) (Or.inl ⟨by rfl, fun _ _ => by go_simp⟩) hHeld ?_
    try simp only [Act.put, List.setIfInBounds_toArray, List.set_cons_zero, List.set_cons_succ]
    refine wpAnyH_take (i := 6) (oi := ⟨_, _, _, _, _, _⟩) (v := .pointer (some ⟨b, 0, none⟩)) rfl (by kernel_rfl) (by kernel_rfl) (by kernel_rfl) (fun _ _ _ h => h) (Or.inl ⟨by rfl, fun _ _ => by go_simp⟩) hHeld ?_
    try simp only [Act.put, List.setIfInBounds_toArray, List.set_cons_zero, List.set_cons_succ]
    refine wpAnyH_take (i := 7) (oi := ⟨_, _, _, _, _, _⟩) (v := .pointer (some ⟨b, 0, none⟩)) rfl (by kernel_rfl) (by kernel_rfl) (by kernel_rfl) (fun _ _ _ h => h) (Or.inl ⟨by rfl, fun _ _ => by go_simp⟩) hHeld ?_
    try simp only [Act.put, List.setIfInBounds_toArray, List.set_cons_zero, List.set_cons_succ]
    refine wpAnyH_take (i := 8) (oi := ⟨_, _, _, _, _, _⟩) (v := .pointer (some ⟨tb, 0, none⟩)) rfl (by kernel_rfl) (by kernel_rfl) (by kernel_rfl) (fun _ _ _ h => h) (Or.inl ⟨by rfl, fun W hW => by have h2 := hW.1; go_simp⟩) hHeld ?_
    try simp only [Act.put, List.setIfInBounds_toArray, List.set_cons_zero, List.set_cons_succ]
    refine wpAnyH_take (i := 9) (oi := ⟨_, _, _, _, _, _⟩) (v := .agg #[.int .i64 (x.a : Int), .int .i64 (x.b : Int), .int .i64 (x.c : Int), .int .i64 (x.m : Int)]) rfl (by kernel_rfl) (by kernel_rfl) (by kernel_rfl) (fun _ _ _ h => h) (Or.inl ⟨by rfl, fun W hW => by obtain ⟨_, g0, g1, g2, g3⟩ := hW; go_simp⟩) hHeld ?_
    try simp only [Act.put, List.setIfInBounds_toArray, List.set_cons_zero, List.set_cons_succ]
    refine wpAnyH_ready (rs := [10]) (by kernel_rfl) (by simp) (AllReadyH.cons (o := ⟨_, _, _, _, _, _⟩) rfl (fun K hK => ?_) AllReadyH.nil)
    rw [if_pos (by rfl)]
    go_simp
    refine (hag _ hb1).mono ?_
    rintro e w2 ⟨v2, rfl, ho2, hb2⟩
    obtain ⟨av2, cv2, rfl⟩ := row_lens ho2
    have hb12 := hb1.trans (hb2.mono hb1.size)
    refine hK.out _ _ (Hd0.out _ hb12) (fun hHeld => ?_)
    clear hK K
    try simp only [Act.put, List.setIfInBounds_toArray, List.set_cons_zero, List.set_cons_succ]
    refine wpAnyH_take (i := 11) (oi := ⟨_, _, _, _, _, _⟩) (v := .int .i64 ((someOf s.R x.a x.b (agP x) 8).length : Int)) rfl (by kernel_rfl) (by kernel_rfl) (by kernel_rfl) (fun _ _ _ h => h) (Or.inl ⟨by rfl, fun _ _ => by go_simp⟩) hHeld ?_
    try simp only [Act.put, List.setIfInBounds_toArray, List.set_cons_zero, List.set_cons_succ]
    refine wpAnyH_take (i := 12) (oi := ⟨_, _, _, _, _, _⟩) (v := .bool true) rfl (by kernel_rfl) (by kernel_rfl) (by kernel_rfl) (fun _ _ _ h => h) (Or.inl ⟨by rfl, fun _ _ => by go_simp⟩) hHeld ?_
    try simp only [Act.put, List.setIfInBounds_toArray, List.set_cons_zero, List.set_cons_succ]
    refine wpAnyH_take (i := 13) (oi := ⟨_, _, _, _, _, _⟩) (v := .bool true) rfl (by kernel_rfl) (by kernel_rfl) (by kernel_rfl) (fun _ _ _ h => h) (Or.inl ⟨by rfl, fun _ _ => rfl⟩) hHeld ?_
    try simp only [Act.put, List.setIfInBounds_toArray, List.set_cons_zero, List.set_cons_succ]
    refine wpAnyH_done (by kernel_rfl) ?_ _
    go_wp2_with fail
    go_ret3
    exact ⟨rfl, HB.out.trans ((below_undrew hb12).mono HB.out.size)⟩
set_option maxRecDepth 100000 in
set_option maxHeartbeats 4000000 in
theorem give_yes (h : IsSvc w b tb kb mb wv n s) (hs : s.Ok) (x : Hd) (hok : HdOk x) (l : List Hd) {lv : Value} (ho : w.ownsRow 0 57 4 lv l.length (hrows l)) (hl : l.length ≤ 1000) (hf : freeB s.R x l = true) (hfit : fitsB s.R x = true) (hlast : s.last < 1099511627776) :
    Calls Tryd.prog 123 #[.pointer (some ⟨b, 0, none⟩), x.val, lv] w fun e w' => e = .returned (.tuple #[.int .i64 ((s.last + 1 : Nat) : Int), .int .i64 0, .bool false]) ∧ IsSvc w' b tb kb mb wv n ⟨putR s.R x, s.B, s.wait, s.last + 1, s.by'⟩ ∧ Moves (fun k => k = tb ∨ k = b) w w' := by
  obtain ⟨X, hX⟩ : ∃ X, X = w.alloc (.cells #[.int .i64 (x.a : Int), .int .i64 (x.b : Int), .int .i64 (x.c : Int), .int .i64 (x.m : Int)] 57) := ⟨_, rfl⟩
  have hb : Below w.heap.size w X := by rw [hX]; exact (Below.refl _ _).alloc (Nat.le_refl _) _
  have hx : HBox X w.heap.size x := by rw [hX]; exact HBox.made w x 57
  have hbl := h.lt b (.inl rfl)
  have hS1 : IsSvc X.drew b tb kb mb wv n s := (h.below hb).keep fun _ _ => rfl
  have hxd : HBox X.drew w.heap.size x := hx.keep rfl
  have hod : X.drew.ownsRow 0 57 4 lv l.length (hrows l) := ownsRow_keep ho fun k hk => hb.block k (ho.lt k hk).2
  have hco := contains_any hod (by omega) 140 #[.pointer (some ⟨w.heap.size, 0, none⟩)] (fun o => clashB o x) (enters_of Tryd.func140 (by kernel_rfl) rfl)
    (fun y W _ hB => give1_any (hxd.below hB) y)
  have hag := fun (W : World) (hB : Below X.drew.heap.size X.drew W) => against_any (hS1.tab.keep (hB.block tb hS1.tab.lt)) hs.R x
  obtain ⟨av, cv, rfl⟩ := row_lens ho
  have hd0 : ∀ W, Below X.drew.heap.size X.drew W → W.cell? ⟨b, 0, none⟩ = some (.pointer (some ⟨tb, 0, none⟩)) ∧ W.cell? ⟨w.heap.size, 0, none⟩ = some (.int .i64 (x.a : Int)) ∧ W.cell? ⟨w.heap.size, 1, none⟩ = some (.int .i64 (x.b : Int)) ∧ W.cell? ⟨w.heap.size, 2, none⟩ = some (.int .i64 (x.c : Int)) ∧ W.cell? ⟨w.heap.size, 3, none⟩ = some (.int .i64 (x.m : Int)) := fun W hB => by
    have h1 := hS1.below hB
    have h2 := hxd.below hB
    exact ⟨h1.c0, h2.a, h2.b, h2.c, h2.m⟩
  have hz := hd0 _ (Below.refl _ _)
  have Hd0 := Lib.hid hd0
  have HX := Lib.hid hX
  have HB := Lib.hid hb
  have HF := Lib.hid hf
  have hcl : l.any (fun o => clashB o x) = false := by unfold freeB at hf; simp at hf; simpa using hf.1
  have hem : someOf s.R x.a x.b (agP x) 8 = [] := by unfold freeB at hf; simp [agB] at hf; exact hf.2
  have hput := fun (W : World) (hB : Below X.drew.heap.size X.drew W) => put_any (w := W) (hS1.below hB).tab hs.R (hS1.below hB).whole x hok.c hok.m hok.ab hok.b hem
  have HSd := Lib.hid hS1
  have htl := h.lt tb (.inr (.inl rfl))
  have hsz := hb.size
  rw [show (if (holdsOf (putR s.R x)).length ≤ 256 then (0 : Int) else 2) = 0 by unfold fitsB at hfit; simp at hfit; rw [if_pos hfit], show (if (holdsOf (putR s.R x)).length ≤ 256 then putR s.R x else s.R) = putR s.R x by unfold fitsB at hfit; simp at hfit; rw [if_pos hfit]] at hput
  clear h hS1 hb hx hxd hod hd0 ho hX hf
  unfold Hd.val at hag hput ⊢
  go_enter Tryd.func123, Tryd.ntmps123
  go_wp2_with fail
  rw [← HX.out]
  have hmix : Tryd.prog.follows .mixedOrders = true := by kernel_rfl
  rw [hcl] at hco
  rw [hem] at hag
  clear hcl hem
  refine wp_region_held_drew (S := fun W => W.cell? ⟨b, 0, none⟩ = some (.pointer (some ⟨tb, 0, none⟩)) ∧ W.cell? ⟨w.heap.size, 0, none⟩ = some (.int .i64 (x.a : Int)) ∧ W.cell? ⟨w.heap.size, 1, none⟩ = some (.int .i64 (x.b : Int)) ∧ W.cell? ⟨w.heap.size, 2, none⟩ = some (.int .i64 (x.c : Int)) ∧ W.cell? ⟨w.heap.size, 3, none⟩ = some (.int .i64 (x.m : Int))) hmix hz (fun hHeld => ?_)
  refine wpAnyH_take (i := 0) (oi := ⟨_, _, _, _, _, _⟩) (v := .slice av l.length cv) rfl (by kernel_rfl) (by kernel_rfl) (by kernel_rfl) (fun _ _ _ h => h) (Or.inl ⟨by rfl, fun _ _ => rfl⟩) hHeld ?_
  try simp only [Act.put, List.setIfInBounds_toArray, List.set_cons_zero, List.set_cons_succ]
  refine wpAnyH_take (i := 1) (oi := ⟨_, _, _, _, _, _⟩) (v := _) rfl (by kernel_rfl) (by kernel_rfl) (by kernel_rfl) (fun _ _ _ h => h) (Or.inl ⟨by rfl, fun _ _ => rfl⟩) hHeld ?_
  try simp only [Act.put, List.setIfInBounds_toArray, List.set_cons_zero, List.set_cons_succ]
  refine wpAnyH_ready (rs := [2]) (by kernel_rfl) (by simp) (AllReadyH.cons (o := ⟨_, _, _, _, _, _⟩) rfl (fun K hK => ?_) AllReadyH.nil)
  rw [if_pos (by rfl)]
  go_simp
  refine hco.mono ?_
  rintro e w1 ⟨rfl, hb1⟩
  refine hK.out _ _ (Hd0.out _ hb1) (fun hHeld => ?_)
  clear hK K hco
  try simp only [Act.put, List.setIfInBounds_toArray, List.set_cons_zero, List.set_cons_succ]
  refine wpAnyH_take (i := 3) (oi := ⟨_, _, _, _, _, _⟩) (v := .bool false) rfl (by kernel_rfl) (by kernel_rfl) (by kernel_rfl) (fun _ _ _ h => h) (Or.inl ⟨by rfl, fun _ _ => rfl⟩) hHeld ?_
  try simp only [Act.put, List.setIfInBounds_toArray, List.set_cons_zero, List.set_cons_succ]
  refine wpAnyH_take (i := 4) (oi := ⟨_, _, _, _, _, _⟩) (v := .pointer (some ⟨b, 0, none⟩)) rfl (by kernel_rfl) (by kernel_rfl) (by kernel_rfl) (fun _ _ _ h => h) (Or.inl ⟨by rfl, fun _ _ => rfl⟩) hHeld ?_
  try simp only [Act.put, List.setIfInBounds_toArray, List.set_cons_zero, List.set_cons_succ]
  refine wpAnyH_take (i := 5) (oi := ⟨_, _, _, _, _, _⟩) (v := .pointer (some ⟨b, 0, none⟩)) rfl (by kernel_rfl) (by kernel_rfl) (by kernel_rfl) (fun _ _ _ h => h) (Or.inl ⟨by rfl, fun _ _ => by go_simp⟩) hHeld ?_
  try simp only [Act.put, List.setIfInBounds_toArray, List.set_cons_zero, List.set_cons_succ]
  refine wpAnyH_take (i := 6) (oi := ⟨_, _, _, _, _, _⟩) (v := .pointer (some ⟨b, 0, none⟩)) rfl (by kernel_rfl) (by kernel_rfl) (by kernel_rfl) (fun _ _ _ h => h) (Or.inl ⟨by rfl, fun _ _ => by go_simp⟩) hHeld ?_
  try simp only [Act.put, List.setIfInBounds_toArray, List.set_cons_zero, List.set_cons_succ]
  refine wpAnyH_take (i := 7) (oi := ⟨_, _, _, _, _, _⟩) (v := .pointer (some ⟨b, 0, none⟩)) rfl (by kernel_rfl) (by kernel_rfl) (by kernel_rfl) (fun _ _ _ h => h) (Or.inl ⟨by rfl, fun _ _ => by go_simp⟩) hHeld ?_
  try simp only [Act.put, List.setIfInBounds_toArray, List.set_cons_zero, List.set_cons_succ]
  refine wpAnyH_take (i := 8) (oi := ⟨_, _, _, _, _, _⟩) (v := .pointer (some ⟨tb, 0, none⟩)) rfl (by kernel_rfl) (by kernel_rfl) (by kernel_rfl) (fun _ _ _ h => h) (Or.inl ⟨by rfl, fun W hW => by have h2 := hW.1; go_simp⟩) hHeld ?_
  try simp only [Act.put, List.setIfInBounds_toArray, List.set_cons_zero, List.set_cons_succ]
  refine wpAnyH_take (i := 9) (oi := ⟨_, _, _, _, _, _⟩) (v := .agg #[.int .i64 (x.a : Int), .int .i64 (x.b : Int), .int .i64 (x.c : Int), .int .i64 (x.m : Int)]) rfl (by kernel_rfl) (by kernel_rfl) (by kernel_rfl) (fun _ _ _ h => h) (Or.inl ⟨by rfl, fun W hW => by obtain ⟨_, g0, g1, g2, g3⟩ := hW; go_simp⟩) hHeld ?_
  try simp only [Act.put, List.setIfInBounds_toArray, List.set_cons_zero, List.set_cons_succ]
  refine wpAnyH_ready (rs := [10]) (by kernel_rfl) (by simp) (AllReadyH.cons (o := ⟨_, _, _, _, _, _⟩) rfl (fun K hK => ?_) AllReadyH.nil)
  rw [if_pos (by rfl)]
  go_simp
  refine (hag _ hb1).mono ?_
  rintro e w2 ⟨v2, rfl, ho2, hb2⟩
  obtain ⟨av2, cv2, rfl⟩ := row_lens ho2
  have hb12 := hb1.trans (hb2.mono hb1.size)
  refine hK.out _ _ (Hd0.out _ hb12) (fun hHeld => ?_)
  clear hK K
  try simp only [Act.put, List.setIfInBounds_toArray, List.set_cons_zero, List.set_cons_succ]
  refine wpAnyH_take (i := 11) (oi := ⟨_, _, _, _, _, _⟩) (v := .int .i64 0) rfl (by kernel_rfl) (by kernel_rfl) (by kernel_rfl) (fun _ _ _ h => h) (Or.inl ⟨by rfl, fun _ _ => by go_simp⟩) hHeld ?_
  try simp only [Act.put, List.setIfInBounds_toArray, List.set_cons_zero, List.set_cons_succ]
  refine wpAnyH_take (i := 12) (oi := ⟨_, _, _, _, _, _⟩) (v := .bool false) rfl (by kernel_rfl) (by kernel_rfl) (by kernel_rfl) (fun _ _ _ h => h) (Or.inl ⟨by rfl, fun _ _ => by go_simp⟩) hHeld ?_
  try simp only [Act.put, List.setIfInBounds_toArray, List.set_cons_zero, List.set_cons_succ]
  refine wpAnyH_take (i := 13) (oi := ⟨_, _, _, _, _, _⟩) (v := .bool false) rfl (by kernel_rfl) (by kernel_rfl) (by kernel_rfl) (fun _ _ _ h => h) (Or.inl ⟨by rfl, fun _ _ => rfl⟩) hHeld ?_
  try simp only [Act.put, List.setIfInBounds_toArray, List.set_cons_zero, List.set_cons_succ]
  refine wpAnyH_done (by kernel_rfl) ?_ _
  go_wp2_with fail
  have hbd : Below X.drew.heap.size X.drew w2.drew := ⟨hb12.os, hb12.tape, hb12.output, hb12.size, hb12.block⟩
  refine wp_region_held_drew (S := fun W => W.cell? ⟨b, 0, none⟩ = some (.pointer (some ⟨tb, 0, none⟩)) ∧ W.cell? ⟨w.heap.size, 0, none⟩ = some (.int .i64 (x.a : Int)) ∧ W.cell? ⟨w.heap.size, 1, none⟩ = some (.int .i64 (x.b : Int)) ∧ W.cell? ⟨w.heap.size, 2, none⟩ = some (.int .i64 (x.c : Int)) ∧ W.cell? ⟨w.heap.size, 3, none⟩ = some (.int .i64 (x.m : Int))) hmix (Hd0.out _ hbd) (fun hHeld => ?_)
  refine wpAnyH_take (i := 0) (oi := ⟨_, _, _, _, _, _⟩) (v := .pointer (some ⟨b, 0, none⟩)) rfl (by kernel_rfl) (by kernel_rfl) (by kernel_rfl) (fun _ _ _ h => h) (Or.inl ⟨by rfl, fun _ _ => rfl⟩) hHeld ?_
  try simp only [Act.put, List.setIfInBounds_toArray, List.set_cons_zero, List.set_cons_succ]
  refine wpAnyH_take (i := 1) (oi := ⟨_, _, _, _, _, _⟩) (v := .pointer (some ⟨b, 0, none⟩)) rfl (by kernel_rfl) (by kernel_rfl) (by kernel_rfl) (fun _ _ _ h => h) (Or.inl ⟨by rfl, fun _ _ => by go_simp⟩) hHeld ?_
  try simp only [Act.put, List.setIfInBounds_toArray, List.set_cons_zero, List.set_cons_succ]
  refine wpAnyH_take (i := 2) (oi := ⟨_, _, _, _, _, _⟩) (v := .pointer (some ⟨b, 0, none⟩)) rfl (by kernel_rfl) (by kernel_rfl) (by kernel_rfl) (fun _ _ _ h => h) (Or.inl ⟨by rfl, fun _ _ => by go_simp⟩) hHeld ?_
  try simp only [Act.put, List.setIfInBounds_toArray, List.set_cons_zero, List.set_cons_succ]
  refine wpAnyH_take (i := 3) (oi := ⟨_, _, _, _, _, _⟩) (v := .pointer (some ⟨b, 0, none⟩)) rfl (by kernel_rfl) (by kernel_rfl) (by kernel_rfl) (fun _ _ _ h => h) (Or.inl ⟨by rfl, fun _ _ => by go_simp⟩) hHeld ?_
  try simp only [Act.put, List.setIfInBounds_toArray, List.set_cons_zero, List.set_cons_succ]
  refine wpAnyH_take (i := 4) (oi := ⟨_, _, _, _, _, _⟩) (v := .pointer (some ⟨tb, 0, none⟩)) rfl (by kernel_rfl) (by kernel_rfl) (by kernel_rfl) (fun _ _ _ h => h) (Or.inl ⟨by rfl, fun W hW => by have h2 := hW.1; go_simp⟩) hHeld ?_
  try simp only [Act.put, List.setIfInBounds_toArray, List.set_cons_zero, List.set_cons_succ]
  refine wpAnyH_take (i := 5) (oi := ⟨_, _, _, _, _, _⟩) (v := .agg #[.int .i64 (x.a : Int), .int .i64 (x.b : Int), .int .i64 (x.c : Int), .int .i64 (x.m : Int)]) rfl (by kernel_rfl) (by kernel_rfl) (by kernel_rfl) (fun _ _ _ h => h) (Or.inl ⟨by rfl, fun W hW => by obtain ⟨_, g0, g1, g2, g3⟩ := hW; go_simp⟩) hHeld ?_
  try simp only [Act.put, List.setIfInBounds_toArray, List.set_cons_zero, List.set_cons_succ]
  refine wpAnyH_ready (rs := [6]) (by kernel_rfl) (by simp) (AllReadyH.cons (o := ⟨_, _, _, _, _, _⟩) rfl (fun K hK => ?_) AllReadyH.nil)
  rw [if_pos (by rfl)]
  go_simp
  refine (hput _ hbd).mono ?_
  rintro e w3 ⟨rfl, hT3, hM3⟩
  have hS3 := (HSd.out.below hbd).tabs hT3 hM3
  have hk3 : w3.heap[w.heap.size]? = w2.drew.heap[w.heap.size]? := hM3.block _ (HBox.lt (x := x) ⟨hHeld.2.1, hHeld.2.2.1, hHeld.2.2.2.1, hHeld.2.2.2.2⟩) (by omega)
  have hx3 : HBox w3 w.heap.size x := HBox.keep (w := w2.drew) ⟨hHeld.2.1, hHeld.2.2.1, hHeld.2.2.2.1, hHeld.2.2.2.2⟩ hk3
  refine hK.out _ _ ⟨hS3.c0, hx3.a, hx3.b, hx3.c, hx3.m⟩ (fun hHeld => ?_)
  clear hK K
  try simp only [Act.put, List.setIfInBounds_toArray, List.set_cons_zero, List.set_cons_succ]
  refine wpAnyH_take (i := 7) (oi := ⟨_, _, _, _, _, _⟩) (v := .int .i64 0) rfl (by kernel_rfl) (by kernel_rfl) (by kernel_rfl) (fun _ _ _ h => h) (Or.inl ⟨by rfl, fun _ _ => rfl⟩) hHeld ?_
  try simp only [Act.put, List.setIfInBounds_toArray, List.set_cons_zero, List.set_cons_succ]
  refine wpAnyH_done (by kernel_rfl) ?_ _
  have hMw : Moves (fun k => k = tb ∨ k = b) w w3 := (Moves.of_below (F := fun k => k = tb ∨ k = b) (HB.out.trans ((below_undrew hbd).mono HB.out.size))).trans hM3 fun i hi => .inl (.inl hi)
  have c3 := hS3.c3
  have f3 := hS3.fro 3
  have hw1 : wrap64 ((s.last : Int) + 1) = ((s.last + 1 : Nat) : Int) := by unfold wrap64; omega
  have HF3 := Lib.hid (hS3.lasts (s.last + 1))
  have HM3 := Lib.hid (Moves.setCell (F := fun k => k = tb ∨ k = b) hMw ⟨b, 3, none⟩ (.int .i64 ((s.last + 1 : Nat) : Int)) (.inl (.inr rfl)))
  clear hS3 hT3 hM3 hk3 hx3 hMw hb1 hb2 hb12 hbd ho2 hw1 hz
  go_wp2_with fail
  go_ret3
  exact ⟨rfl, HF3.out, HM3.out⟩
set_option maxRecDepth 100000 in
set_option maxHeartbeats 4000000 in
theorem give_full (h : IsSvc w b tb kb mb wv n s) (hs : s.Ok) (x : Hd) (hok : HdOk x) (l : List Hd) {lv : Value} (ho : w.ownsRow 0 57 4 lv l.length (hrows l)) (hl : l.length ≤ 1000) (hf : freeB s.R x l = true) (hfit : fitsB s.R x = false) :
    Calls Tryd.prog 123 #[.pointer (some ⟨b, 0, none⟩), x.val, lv] w fun e w' => e = .returned (.tuple #[.int .i64 0, .int .i64 2, .bool false]) ∧ IsSvc w' b tb kb mb wv n s ∧ Moves (fun k => k = tb ∨ k = b) w w' := by
  obtain ⟨X, hX⟩ : ∃ X, X = w.alloc (.cells #[.int .i64 (x.a : Int), .int .i64 (x.b : Int), .int .i64 (x.c : Int), .int .i64 (x.m : Int)] 57) := ⟨_, rfl⟩
  have hb : Below w.heap.size w X := by rw [hX]; exact (Below.refl _ _).alloc (Nat.le_refl _) _
  have hx : HBox X w.heap.size x := by rw [hX]; exact HBox.made w x 57
  have hbl := h.lt b (.inl rfl)
  have hS1 : IsSvc X.drew b tb kb mb wv n s := (h.below hb).keep fun _ _ => rfl
  have hxd : HBox X.drew w.heap.size x := hx.keep rfl
  have hod : X.drew.ownsRow 0 57 4 lv l.length (hrows l) := ownsRow_keep ho fun k hk => hb.block k (ho.lt k hk).2
  have hco := contains_any hod (by omega) 140 #[.pointer (some ⟨w.heap.size, 0, none⟩)] (fun o => clashB o x) (enters_of Tryd.func140 (by kernel_rfl) rfl)
    (fun y W _ hB => give1_any (hxd.below hB) y)
  have hag := fun (W : World) (hB : Below X.drew.heap.size X.drew W) => against_any (hS1.tab.keep (hB.block tb hS1.tab.lt)) hs.R x
  obtain ⟨av, cv, rfl⟩ := row_lens ho
  have hd0 : ∀ W, Below X.drew.heap.size X.drew W → W.cell? ⟨b, 0, none⟩ = some (.pointer (some ⟨tb, 0, none⟩)) ∧ W.cell? ⟨w.heap.size, 0, none⟩ = some (.int .i64 (x.a : Int)) ∧ W.cell? ⟨w.heap.size, 1, none⟩ = some (.int .i64 (x.b : Int)) ∧ W.cell? ⟨w.heap.size, 2, none⟩ = some (.int .i64 (x.c : Int)) ∧ W.cell? ⟨w.heap.size, 3, none⟩ = some (.int .i64 (x.m : Int)) := fun W hB => by
    have h1 := hS1.below hB
    have h2 := hxd.below hB
    exact ⟨h1.c0, h2.a, h2.b, h2.c, h2.m⟩
  have hz := hd0 _ (Below.refl _ _)
  have Hd0 := Lib.hid hd0
  have HX := Lib.hid hX
  have HB := Lib.hid hb
  have HF := Lib.hid hf
  have hcl : l.any (fun o => clashB o x) = false := by unfold freeB at hf; simp at hf; simpa using hf.1
  have hem : someOf s.R x.a x.b (agP x) 8 = [] := by unfold freeB at hf; simp [agB] at hf; exact hf.2
  have hput := fun (W : World) (hB : Below X.drew.heap.size X.drew W) => put_any (w := W) (hS1.below hB).tab hs.R (hS1.below hB).whole x hok.c hok.m hok.ab hok.b hem
  have HSd := Lib.hid hS1
  have htl := h.lt tb (.inr (.inl rfl))
  have hsz := hb.size
  rw [show (if (holdsOf (putR s.R x)).length ≤ 256 then (0 : Int) else 2) = 2 by unfold fitsB at hfit; simp at hfit; rw [if_neg (by omega)], show (if (holdsOf (putR s.R x)).length ≤ 256 then putR s.R x else s.R) = s.R by unfold fitsB at hfit; simp at hfit; rw [if_neg (by omega)]] at hput
  clear h hS1 hb hx hxd hod hd0 ho hX hf
  unfold Hd.val at hag hput ⊢
  go_enter Tryd.func123, Tryd.ntmps123
  go_wp2_with fail
  rw [← HX.out]
  have hmix : Tryd.prog.follows .mixedOrders = true := by kernel_rfl
  rw [hcl] at hco
  rw [hem] at hag
  clear hcl hem
  refine wp_region_held_drew (S := fun W => W.cell? ⟨b, 0, none⟩ = some (.pointer (some ⟨tb, 0, none⟩)) ∧ W.cell? ⟨w.heap.size, 0, none⟩ = some (.int .i64 (x.a : Int)) ∧ W.cell? ⟨w.heap.size, 1, none⟩ = some (.int .i64 (x.b : Int)) ∧ W.cell? ⟨w.heap.size, 2, none⟩ = some (.int .i64 (x.c : Int)) ∧ W.cell? ⟨w.heap.size, 3, none⟩ = some (.int .i64 (x.m : Int))) hmix hz (fun hHeld => ?_)
  refine wpAnyH_take (i := 0) (oi := ⟨_, _, _, _, _, _⟩) (v := .slice av l.length cv) rfl (by kernel_rfl) (by kernel_rfl) (by kernel_rfl) (fun _ _ _ h => h) (Or.inl ⟨by rfl, fun _ _ => rfl⟩) hHeld ?_
  try simp only [Act.put, List.setIfInBounds_toArray, List.set_cons_zero, List.set_cons_succ]
  refine wpAnyH_take (i := 1) (oi := ⟨_, _, _, _, _, _⟩) (v := _) rfl (by kernel_rfl) (by kernel_rfl) (by kernel_rfl) (fun _ _ _ h => h) (Or.inl ⟨by rfl, fun _ _ => rfl⟩) hHeld ?_
  try simp only [Act.put, List.setIfInBounds_toArray, List.set_cons_zero, List.set_cons_succ]
  refine wpAnyH_ready (rs := [2]) (by kernel_rfl) (by simp) (AllReadyH.cons (o := ⟨_, _, _, _, _, _⟩) rfl (fun K hK => ?_) AllReadyH.nil)
  rw [if_pos (by rfl)]
  go_simp
  refine hco.mono ?_
  rintro e w1 ⟨rfl, hb1⟩
  refine hK.out _ _ (Hd0.out _ hb1) (fun hHeld => ?_)
  clear hK K hco
  try simp only [Act.put, List.setIfInBounds_toArray, List.set_cons_zero, List.set_cons_succ]
  refine wpAnyH_take (i := 3) (oi := ⟨_, _, _, _, _, _⟩) (v := .bool false) rfl (by kernel_rfl) (by kernel_rfl) (by kernel_rfl) (fun _ _ _ h => h) (Or.inl ⟨by rfl, fun _ _ => rfl⟩) hHeld ?_
  try simp only [Act.put, List.setIfInBounds_toArray, List.set_cons_zero, List.set_cons_succ]
  refine wpAnyH_take (i := 4) (oi := ⟨_, _, _, _, _, _⟩) (v := .pointer (some ⟨b, 0, none⟩)) rfl (by kernel_rfl) (by kernel_rfl) (by kernel_rfl) (fun _ _ _ h => h) (Or.inl ⟨by rfl, fun _ _ => rfl⟩) hHeld ?_
  try simp only [Act.put, List.setIfInBounds_toArray, List.set_cons_zero, List.set_cons_succ]
  refine wpAnyH_take (i := 5) (oi := ⟨_, _, _, _, _, _⟩) (v := .pointer (some ⟨b, 0, none⟩)) rfl (by kernel_rfl) (by kernel_rfl) (by kernel_rfl) (fun _ _ _ h => h) (Or.inl ⟨by rfl, fun _ _ => by go_simp⟩) hHeld ?_
  try simp only [Act.put, List.setIfInBounds_toArray, List.set_cons_zero, List.set_cons_succ]
  refine wpAnyH_take (i := 6) (oi := ⟨_, _, _, _, _, _⟩) (v := .pointer (some ⟨b, 0, none⟩)) rfl (by kernel_rfl) (by kernel_rfl) (by kernel_rfl) (fun _ _ _ h => h) (Or.inl ⟨by rfl, fun _ _ => by go_simp⟩) hHeld ?_
  try simp only [Act.put, List.setIfInBounds_toArray, List.set_cons_zero, List.set_cons_succ]
  refine wpAnyH_take (i := 7) (oi := ⟨_, _, _, _, _, _⟩) (v := .pointer (some ⟨b, 0, none⟩)) rfl (by kernel_rfl) (by kernel_rfl) (by kernel_rfl) (fun _ _ _ h => h) (Or.inl ⟨by rfl, fun _ _ => by go_simp⟩) hHeld ?_
  try simp only [Act.put, List.setIfInBounds_toArray, List.set_cons_zero, List.set_cons_succ]
  refine wpAnyH_take (i := 8) (oi := ⟨_, _, _, _, _, _⟩) (v := .pointer (some ⟨tb, 0, none⟩)) rfl (by kernel_rfl) (by kernel_rfl) (by kernel_rfl) (fun _ _ _ h => h) (Or.inl ⟨by rfl, fun W hW => by have h2 := hW.1; go_simp⟩) hHeld ?_
  try simp only [Act.put, List.setIfInBounds_toArray, List.set_cons_zero, List.set_cons_succ]
  refine wpAnyH_take (i := 9) (oi := ⟨_, _, _, _, _, _⟩) (v := .agg #[.int .i64 (x.a : Int), .int .i64 (x.b : Int), .int .i64 (x.c : Int), .int .i64 (x.m : Int)]) rfl (by kernel_rfl) (by kernel_rfl) (by kernel_rfl) (fun _ _ _ h => h) (Or.inl ⟨by rfl, fun W hW => by obtain ⟨_, g0, g1, g2, g3⟩ := hW; go_simp⟩) hHeld ?_
  try simp only [Act.put, List.setIfInBounds_toArray, List.set_cons_zero, List.set_cons_succ]
  refine wpAnyH_ready (rs := [10]) (by kernel_rfl) (by simp) (AllReadyH.cons (o := ⟨_, _, _, _, _, _⟩) rfl (fun K hK => ?_) AllReadyH.nil)
  rw [if_pos (by rfl)]
  go_simp
  refine (hag _ hb1).mono ?_
  rintro e w2 ⟨v2, rfl, ho2, hb2⟩
  obtain ⟨av2, cv2, rfl⟩ := row_lens ho2
  have hb12 := hb1.trans (hb2.mono hb1.size)
  refine hK.out _ _ (Hd0.out _ hb12) (fun hHeld => ?_)
  clear hK K
  try simp only [Act.put, List.setIfInBounds_toArray, List.set_cons_zero, List.set_cons_succ]
  refine wpAnyH_take (i := 11) (oi := ⟨_, _, _, _, _, _⟩) (v := .int .i64 0) rfl (by kernel_rfl) (by kernel_rfl) (by kernel_rfl) (fun _ _ _ h => h) (Or.inl ⟨by rfl, fun _ _ => by go_simp⟩) hHeld ?_
  try simp only [Act.put, List.setIfInBounds_toArray, List.set_cons_zero, List.set_cons_succ]
  refine wpAnyH_take (i := 12) (oi := ⟨_, _, _, _, _, _⟩) (v := .bool false) rfl (by kernel_rfl) (by kernel_rfl) (by kernel_rfl) (fun _ _ _ h => h) (Or.inl ⟨by rfl, fun _ _ => by go_simp⟩) hHeld ?_
  try simp only [Act.put, List.setIfInBounds_toArray, List.set_cons_zero, List.set_cons_succ]
  refine wpAnyH_take (i := 13) (oi := ⟨_, _, _, _, _, _⟩) (v := .bool false) rfl (by kernel_rfl) (by kernel_rfl) (by kernel_rfl) (fun _ _ _ h => h) (Or.inl ⟨by rfl, fun _ _ => rfl⟩) hHeld ?_
  try simp only [Act.put, List.setIfInBounds_toArray, List.set_cons_zero, List.set_cons_succ]
  refine wpAnyH_done (by kernel_rfl) ?_ _
  go_wp2_with fail
  have hbd : Below X.drew.heap.size X.drew w2.drew := ⟨hb12.os, hb12.tape, hb12.output, hb12.size, hb12.block⟩
  refine wp_region_held_drew (S := fun W => W.cell? ⟨b, 0, none⟩ = some (.pointer (some ⟨tb, 0, none⟩)) ∧ W.cell? ⟨w.heap.size, 0, none⟩ = some (.int .i64 (x.a : Int)) ∧ W.cell? ⟨w.heap.size, 1, none⟩ = some (.int .i64 (x.b : Int)) ∧ W.cell? ⟨w.heap.size, 2, none⟩ = some (.int .i64 (x.c : Int)) ∧ W.cell? ⟨w.heap.size, 3, none⟩ = some (.int .i64 (x.m : Int))) hmix (Hd0.out _ hbd) (fun hHeld => ?_)
  refine wpAnyH_take (i := 0) (oi := ⟨_, _, _, _, _, _⟩) (v := .pointer (some ⟨b, 0, none⟩)) rfl (by kernel_rfl) (by kernel_rfl) (by kernel_rfl) (fun _ _ _ h => h) (Or.inl ⟨by rfl, fun _ _ => rfl⟩) hHeld ?_
  try simp only [Act.put, List.setIfInBounds_toArray, List.set_cons_zero, List.set_cons_succ]
  refine wpAnyH_take (i := 1) (oi := ⟨_, _, _, _, _, _⟩) (v := .pointer (some ⟨b, 0, none⟩)) rfl (by kernel_rfl) (by kernel_rfl) (by kernel_rfl) (fun _ _ _ h => h) (Or.inl ⟨by rfl, fun _ _ => by go_simp⟩) hHeld ?_
  try simp only [Act.put, List.setIfInBounds_toArray, List.set_cons_zero, List.set_cons_succ]
  refine wpAnyH_take (i := 2) (oi := ⟨_, _, _, _, _, _⟩) (v := .pointer (some ⟨b, 0, none⟩)) rfl (by kernel_rfl) (by kernel_rfl) (by kernel_rfl) (fun _ _ _ h => h) (Or.inl ⟨by rfl, fun _ _ => by go_simp⟩) hHeld ?_
  try simp only [Act.put, List.setIfInBounds_toArray, List.set_cons_zero, List.set_cons_succ]
  refine wpAnyH_take (i := 3) (oi := ⟨_, _, _, _, _, _⟩) (v := .pointer (some ⟨b, 0, none⟩)) rfl (by kernel_rfl) (by kernel_rfl) (by kernel_rfl) (fun _ _ _ h => h) (Or.inl ⟨by rfl, fun _ _ => by go_simp⟩) hHeld ?_
  try simp only [Act.put, List.setIfInBounds_toArray, List.set_cons_zero, List.set_cons_succ]
  refine wpAnyH_take (i := 4) (oi := ⟨_, _, _, _, _, _⟩) (v := .pointer (some ⟨tb, 0, none⟩)) rfl (by kernel_rfl) (by kernel_rfl) (by kernel_rfl) (fun _ _ _ h => h) (Or.inl ⟨by rfl, fun W hW => by have h2 := hW.1; go_simp⟩) hHeld ?_
  try simp only [Act.put, List.setIfInBounds_toArray, List.set_cons_zero, List.set_cons_succ]
  refine wpAnyH_take (i := 5) (oi := ⟨_, _, _, _, _, _⟩) (v := .agg #[.int .i64 (x.a : Int), .int .i64 (x.b : Int), .int .i64 (x.c : Int), .int .i64 (x.m : Int)]) rfl (by kernel_rfl) (by kernel_rfl) (by kernel_rfl) (fun _ _ _ h => h) (Or.inl ⟨by rfl, fun W hW => by obtain ⟨_, g0, g1, g2, g3⟩ := hW; go_simp⟩) hHeld ?_
  try simp only [Act.put, List.setIfInBounds_toArray, List.set_cons_zero, List.set_cons_succ]
  refine wpAnyH_ready (rs := [6]) (by kernel_rfl) (by simp) (AllReadyH.cons (o := ⟨_, _, _, _, _, _⟩) rfl (fun K hK => ?_) AllReadyH.nil)
  rw [if_pos (by rfl)]
  go_simp
  refine (hput _ hbd).mono ?_
  rintro e w3 ⟨rfl, hT3, hM3⟩
  have hS3 := (HSd.out.below hbd).tabs hT3 hM3
  have hk3 : w3.heap[w.heap.size]? = w2.drew.heap[w.heap.size]? := hM3.block _ (HBox.lt (x := x) ⟨hHeld.2.1, hHeld.2.2.1, hHeld.2.2.2.1, hHeld.2.2.2.2⟩) (by omega)
  have hx3 : HBox w3 w.heap.size x := HBox.keep (w := w2.drew) ⟨hHeld.2.1, hHeld.2.2.1, hHeld.2.2.2.1, hHeld.2.2.2.2⟩ hk3
  refine hK.out _ _ ⟨hS3.c0, hx3.a, hx3.b, hx3.c, hx3.m⟩ (fun hHeld => ?_)
  clear hK K
  try simp only [Act.put, List.setIfInBounds_toArray, List.set_cons_zero, List.set_cons_succ]
  refine wpAnyH_take (i := 7) (oi := ⟨_, _, _, _, _, _⟩) (v := .int .i64 2) rfl (by kernel_rfl) (by kernel_rfl) (by kernel_rfl) (fun _ _ _ h => h) (Or.inl ⟨by rfl, fun _ _ => rfl⟩) hHeld ?_
  try simp only [Act.put, List.setIfInBounds_toArray, List.set_cons_zero, List.set_cons_succ]
  refine wpAnyH_done (by kernel_rfl) ?_ _
  have hMw : Moves (fun k => k = tb ∨ k = b) w w3 := (Moves.of_below (F := fun k => k = tb ∨ k = b) (HB.out.trans ((below_undrew hbd).mono HB.out.size))).trans hM3 fun i hi => .inl (.inl hi)
  have HF3 := Lib.hid hS3
  have HM3 := Lib.hid hMw
  clear hS3 hT3 hM3 hk3 hx3 hMw hb1 hb2 hb12 hbd ho2 hz
  go_wp2_with fail
  go_ret3
  exact ⟨rfl, HF3.out, HM3.out⟩
end
end Go.Proofs.YtfjfkmoofmncnaaDoor
