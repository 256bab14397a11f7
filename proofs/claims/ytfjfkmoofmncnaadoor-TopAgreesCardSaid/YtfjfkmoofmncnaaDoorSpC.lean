/- span: client, set, the closures, List, Against, Cut, Weaken, Drop, New. -/
import Derived.Test.YtfjfkmoofmncnaaDoorSpB
namespace Go.Proofs.YtfjfkmoofmncnaaDoor
open Go.RowKit
/-- A client's modes in some blocks turned. -/
def setR (R : Nat → Nat → Nat) (c a z : Nat) (g : Nat → Nat) (i k : Nat) : Nat := if i = c ∧ a ≤ k ∧ k < z then g (R i k) else R i k
section
variable {w w' : World} {b : Nat} {R : Nat → Nat → Nat}
theorem IsTab.same {R' : Nat → Nat → Nat} (h : IsTab w b R) (he : ∀ c k, c < 8 → k < 256 → R c k = R' c k) : IsTab w b R' := ⟨fun c k hc hk => by rw [← he c k hc hk]; exact h.c c k hc hk, h.fro⟩
theorem made_cell {cs : Array Value} {T : TypeId} {w1 : World} (hb : Below (w.alloc (.cells cs T)).heap.size (w.alloc (.cells cs T)) w1) (j : Nat) : w1.cell? ⟨w.heap.size, j, none⟩ = cs[j]? :=
  (World.cell?_of_block (a := ⟨w.heap.size, j, none⟩) (hb.block _ (by simp))).trans (World.cell?_alloc_new _ _ _ _)
theorem made_fro {cs : Array Value} {T : TypeId} {w1 : World} (hb : Below (w.alloc (.cells cs T)).heap.size (w.alloc (.cells cs T)) w1) (j : Nat) : w1.frozen? ⟨w.heap.size, j, none⟩ = false :=
  (World.frozen?_of_block (a := ⟨w.heap.size, j, none⟩) (hb.block _ (by simp))).trans (World.frozen?_alloc_new _ _ _ _)
set_option maxRecDepth 100000 in
theorem sclient_yes (c : Nat) (hc : c < 8) : Calls Tryd.prog 150 #[.int .i64 (c : Int)] w fun e w' => e = .returned (.bool true) ∧ w = w' := by
  have e1 : decide ((0 : Int) ≤ (c : Int)) = true := by simp
  have e2 : decide ((c : Int) < 8) = true := by simp; omega
  go_enter Tryd.func150, Tryd.ntmps150
  go_wp2_with fail
  go_ret
  exact ⟨rfl, rfl⟩
theorem IsTab.set1 (h : IsTab w b R) (c k : Nat) (hc : c < 8) (hk : k < 256) (n : Nat) : IsTab (w.setCell ⟨b, c * 256 + k, none⟩ (.int .u8 (n : Int))) b (fun i j => if i = c ∧ j = k then n else R i j) := by
  refine ⟨fun i j hi hj => ?_, fun o => by rw [World.frozen?_setCell]; exact h.fro o⟩
  by_cases e : i = c ∧ j = k
  · obtain ⟨rfl, rfl⟩ := e
    rw [if_pos ⟨rfl, rfl⟩]
    exact World.cell?_setCell_same _ _ _ (h.c i j hi hj)
  · rw [if_neg e, oth_cell _ _ _ (by omega)]
    exact h.c i j hi hj
set_option maxRecDepth 100000 in
set_option maxHeartbeats 4000000 in
theorem set_any (h : IsTab w b R) (hR : ∀ c k, c < 8 → k < 256 → R c k < 256) (c a z : Nat) (hc : c < 8) (wf : FuncId) (lb : Array Value) (g : Nat → Nat) (eg : ∀ args w, (callFunc wf args).run Tryd.prog w = .ok (.enter wf args) w)
    (hp : ∀ (m : Nat) (W : World), m < 256 → Moves (fun k => k = b) w W → Calls Tryd.prog wf (#[.int .u8 (m : Int)] ++ lb) W fun e w' => e = .returned (.int .u8 (g m : Int)) ∧ W = w') :
    Calls Tryd.prog 145 #[.pointer (some ⟨b, 0, none⟩), .int .i64 (c : Int), rng a z, .func (.func wf) #[] lb] w fun e w' => (∃ v, e = .returned v) ∧ IsTab w' b (setR R c a z g) ∧ Moves (fun k => k = b) w w' := by
  unfold rng
  have hcl := fun W => sclient_yes (w := W) c hc
  have hclip := fun W => clip_any (w := W) a z
  unfold rng at hclip
  have H := Lib.hid h
  clear h
  go_enter Tryd.func145, Tryd.ntmps145
  go_wp2_with (first
    | (go_at_call 150; refine (hcl _).mono ?_; clear hcl; rintro e w1 ⟨rfl, rfl⟩)
    | (go_at_call 89; refine (hclip _).mono ?_; clear hclip; rintro e w1 ⟨rfl, hb1⟩
       have x0 : w1.cell? ⟨w.heap.size, 0, none⟩ = some (.int .i64 (a : Int)) := (made_cell hb1 0).trans rfl
       have x1 : w1.cell? ⟨w.heap.size, 1, none⟩ = some (.int .i64 (z : Int)) := (made_cell hb1 1).trans rfl
       have f0 := made_fro hb1 0
       have f1 := made_fro hb1 1))
  have hI0 : IsTab ((w1.setCell ⟨w.heap.size, 0, none⟩ (.int .i64 (a : Int))).setCell ⟨w.heap.size, 1, none⟩ (.int .i64 ((min z 256 : Nat) : Int))) b R := by
    have hl := H.out.lt
    refine H.out.keep ?_
    rw [Below.heap_setCell _ _ _ _ (by show b ≠ w.heap.size; omega), Below.heap_setCell _ _ _ _ (by show b ≠ w.heap.size; omega), hb1.block b (by simp; omega), Below.heap_alloc _ _ _ hl]
  have hM0 : Moves (fun k => k = b) w ((w1.setCell ⟨w.heap.size, 0, none⟩ (.int .i64 (a : Int))).setCell ⟨w.heap.size, 1, none⟩ (.int .i64 ((min z 256 : Nat) : Int))) :=
    Moves.setCell (Moves.setCell (((Moves.refl _ w).alloc _).trans (Moves.of_below (F := fun _ => False) hb1) fun i h => h.elim) ⟨w.heap.size, 0, none⟩ _ (.inr (Nat.le_refl _))) ⟨w.heap.size, 1, none⟩ _ (.inr (Nat.le_refl _))
  have hx1 : ((w1.setCell ⟨w.heap.size, 0, none⟩ (.int .i64 (a : Int))).setCell ⟨w.heap.size, 1, none⟩ (.int .i64 ((min z 256 : Nat) : Int))).cell? ⟨w.heap.size, 1, none⟩ = some (.int .i64 ((min z 256 : Nat) : Int)) :=
    World.cell?_setCell_same (u := .int .i64 (z : Int)) _ _ _ (by rw [oth_cell _ _ _ (by omega)]; exact x1)
  generalize (w1.setCell ⟨w.heap.size, 0, none⟩ (.int .i64 (a : Int))).setCell ⟨w.heap.size, 1, none⟩ (.int .i64 ((min z 256 : Nat) : Int)) = w2 at hI0 hM0 hx1 ⊢
  obtain ⟨hi, hhi⟩ : ∃ hi, hi = min z 256 := ⟨_, rfl⟩
  rw [← hhi] at hx1
  have hbl := H.out.lt
  have hhi2 : hi ≤ 256 := by omega
  have HH := Lib.hid hhi
  clear hhi
  clear x0 x1 f0 f1 hb1
  go_loopw [8] (fun p wr => ∃ k : Nat, p = .int .i64 (k : Int) ∧ a ≤ k ∧ (k ≤ hi ∨ k = a) ∧ IsTab wr b (setR R c a k g) ∧ wr.cell? ⟨w.heap.size, 1, none⟩ = some (.int .i64 (hi : Int)) ∧ Moves (fun k => k = b) w wr) (fun p _ => 256 - (intOf p).toNat)
  case atStart => exact ⟨a, rfl, Nat.le_refl _, .inr rfl, hI0.same fun i j _ _ => by unfold setR; rw [if_neg (by omega)], hx1, hM0⟩
  case round =>
    clear hI0 hM0 hx1
    obtain ⟨k, rfl, hak, hkh, hT, hx1, hM⟩ := hrel
    by_cases hlt : k < hi
    · have e1 : decide ((k : Int) < (hi : Int)) = true := by simpa using hlt
      have hk : k < 256 := by omega
      have hck := hT.c c k hc hk
      have hck2 : setR R c a k g c k = R c k := by unfold setR; rw [if_neg (by omega)]
      rw [hck2] at hck
      have hfr := hT.fro (c * 256 + k)
      have hcall := hp (R c k) wr.drew (hR c k hc hk) hM.drew
      have hc8 : (c : Int) < 8 := by omega
      have hk8 : (k : Int) < 256 := by omega
      have hckd : wr.drew.cell? ⟨b, c * 256 + k, none⟩ = some (.int .u8 (R c k : Int)) := hck
      have hfrd : wr.drew.frozen? ⟨b, c * 256 + k, none⟩ = false := hfr
      have hTn := (hT.keep (w' := wr.drew) rfl).set1 c k hc hk (g (R c k))
      have hMn : Moves (fun i => i = b) w (wr.drew.setCell ⟨b, c * 256 + k, none⟩ (.int .u8 (g (R c k) : Int))) := Moves.setCell (F := fun i => i = b) hM.drew ⟨b, c * 256 + k, none⟩ _ (.inl rfl)
      have hXn : (wr.drew.setCell ⟨b, c * 256 + k, none⟩ (.int .u8 (g (R c k) : Int))).cell? ⟨w.heap.size, 1, none⟩ = some (.int .i64 (hi : Int)) := by
        rw [World.cell?_setCell_other _ _ _ _ (by intro e; injection e with e1 _; omega)]; exact hx1
      have HT := Lib.hid hTn
      have HM := Lib.hid hMn
      have HX := Lib.hid hXn
      clear hT hM hck2 hTn hMn hXn
      go_wp2_with fail
      refine wp_region_still_tail 17 (by kernel_rfl) (by kernel_rfl) ?_
      simp only [List.take_succ_cons, List.take_zero, List.drop_succ_cons, List.drop_zero]
      iterate 12 still_step
      still_call (hcall.mono fun e w' ⟨he, hw⟩ => ⟨he, hw.symm⟩)
      iterate 4 still_step
      refine wpStill_nil ?_
      go_wp2_with fail
      go_roundw
      case rel =>
        refine ⟨k + 1, by go_num, by omega, .inl (by omega), HT.out.same fun i j _ _ => ?_, HX.out, HM.out⟩
        unfold setR
        by_cases e : i = c ∧ j = k
        · obtain ⟨rfl, rfl⟩ := e
          rw [if_pos ⟨rfl, rfl⟩, if_pos (by omega)]
        · rw [if_neg e]
          by_cases e2 : i = c ∧ a ≤ j ∧ j < k
          · rw [if_pos e2, if_pos (by omega)]
          · rw [if_neg e2, if_neg (by omega)]
      case measure => simp [intOf]; omega
    · have e1 : decide ((k : Int) < (hi : Int)) = false := by simpa using hlt
      have hhi := HH.out
      have HF := Lib.hid (show IsTab wr b (setR R c a z g) from hT.same fun i j hi' hj => by
        unfold setR
        by_cases e : i = c ∧ a ≤ j
        · by_cases hj2 : j < k
          · rw [if_pos ⟨e.1, e.2, hj2⟩, if_pos ⟨e.1, e.2, by omega⟩]
          · rw [if_neg (by omega), if_neg (by omega)]
        · rw [if_neg (by omega), if_neg (by omega)])
      have HM := Lib.hid hM
      clear hT hM hhi
      go_wp2_with fail
      go_end0
      exact ⟨⟨_, rfl⟩, HF.out, HM.out⟩
/-- The range of all blocks, as the program's variable has it. -/
structure Whole (w : World) : Prop where
  a : w.cell? ⟨1, 0, none⟩ = some (.int .i64 0)
  z : w.cell? ⟨1, 1, none⟩ = some (.int .i64 256)
theorem Whole.keep (h : Whole w) (hk : w'.heap[1]? = w.heap[1]?) : Whole w' :=
  ⟨(World.cell?_of_block (a := ⟨1, 0, none⟩) hk).trans h.a, (World.cell?_of_block (a := ⟨1, 1, none⟩) hk).trans h.z⟩
theorem Whole.lt (h : Whole w) : 1 < w.heap.size := World.block_lt_of_cell? w _ h.a
def holdsOf (R : Nat → Nat → Nat) : List Hd := someOf R 0 256 (fun _ _ => true) 8
def Small (R : Nat → Nat → Nat) : Prop := ∀ c k, c < 8 → k < 256 → R c k ≤ 2
theorem Small.lt {R : Nat → Nat → Nat} (h : Small R) : ∀ c k, c < 8 → k < 256 → R c k < 256 := fun c k hc hk => by have := h c k hc hk; omega
set_option maxRecDepth 100000 in
theorem yes_any (c m : Int) : Calls Tryd.prog 72 #[.int .i64 c, .int .i64 m] w fun e w' => e = .returned (.bool true) ∧ w = w' := by
  go_enter Tryd.func72, Tryd.ntmps72
  go_wp2_with fail
  go_ret
  exact ⟨rfl, rfl⟩
set_option maxRecDepth 100000 in
theorem slist_any (h : IsTab w b R) (hR : Small R) (hW : Whole w) :
    Calls Tryd.prog 41 #[.pointer (some ⟨b, 0, none⟩)] w fun e w' => ∃ v, e = .returned v ∧ w'.ownsRow w.heap.size 57 4 v (holdsOf R).length (hrows (holdsOf R)) ∧ Below w.heap.size w w' := by
  have hs := some_any h hR.lt 0 256 72 #[] (fun _ _ => true) (enters_of Tryd.func72 (by kernel_rfl) rfl) (fun c m W _ _ _ => yes_any c m)
  have e1 := hW.a
  have e2 := hW.z
  unfold rng at hs
  go_enter Tryd.func41, Tryd.ntmps41
  go_wp2_with (go_at_call 71; refine hs.mono ?_; clear hs; rintro e w1 ⟨v, rfl, ho, hb⟩)
  go_ret
  exact ⟨v, rfl, ho, hb⟩
/-- A hold against which others stand. -/
def agP (h : Hd) (c m : Nat) : Bool := decide (c ≠ h.c) && (decide (m = 2) || decide (h.m = 2))
set_option maxRecDepth 100000 in
theorem ag1_any (B : Nat) (h : Hd) (h2 : w.cell? ⟨B, 2, none⟩ = some (.int .i64 (h.c : Int))) (h3 : w.cell? ⟨B, 3, none⟩ = some (.int .i64 (h.m : Int))) (c m : Nat) :
    Calls Tryd.prog 143 #[.int .i64 (c : Int), .int .i64 (m : Int), .pointer (some ⟨B, 0, none⟩)] w fun e w' => e = .returned (.bool (agP h c m)) ∧ w = w' := by
  by_cases hc : c = h.c
  · have e1 : ((c : Int) == (h.c : Int)) = true := by simp [hc]
    have e0 : agP h c m = false := by simp [agP, hc]
    rw [e0]
    go_enter Tryd.func143, Tryd.ntmps143
    go_wp2_with fail
    go_ret
    exact ⟨rfl, rfl⟩
  · have e1 : ((c : Int) == (h.c : Int)) = false := by simp; omega
    have e1' : ((c : Int) != (h.c : Int)) = true := by simp [bne, e1]
    by_cases hm : m = 2
    · have e2 : ((m : Int) == 2) = true := by simp [hm]
      have e0 : agP h c m = true := by simp [agP, hc, hm]
      rw [e0]
      go_enter Tryd.func143, Tryd.ntmps143
      go_wp2_with fail
      go_ret
      exact ⟨rfl, rfl⟩
    · have e2 : ((m : Int) == 2) = false := by simp; omega
      have e0 : agP h c m = ((h.m : Int) == 2) := by
        simp [agP, hc, hm]
        by_cases hh : h.m = 2
        · simp [hh]
        · have : ((h.m : Int) == 2) = false := by simp; omega
          simp [hh, this]
      rw [e0]
      go_enter Tryd.func143, Tryd.ntmps143
      go_wp2_with fail
      go_ret
      exact ⟨rfl, rfl⟩
set_option maxRecDepth 100000 in
theorem against_any (h : IsTab w b R) (hR : Small R) (x : Hd) :
    Calls Tryd.prog 124 #[.pointer (some ⟨b, 0, none⟩), x.val] w fun e w' => ∃ v, e = .returned v ∧ w'.ownsRow w.heap.size 57 4 v (someOf R x.a x.b (agP x) 8).length (hrows (someOf R x.a x.b (agP x) 8)) ∧ Below w.heap.size w w' := by
  have hT1 : IsTab (w.alloc (.cells #[.int .i64 (x.a : Int), .int .i64 (x.b : Int), .int .i64 (x.c : Int), .int .i64 (x.m : Int)] 57)) b R := h.keep (Below.heap_alloc _ _ _ h.lt)
  have hbA : Below w.heap.size w (w.alloc (.cells #[.int .i64 (x.a : Int), .int .i64 (x.b : Int), .int .i64 (x.c : Int), .int .i64 (x.m : Int)] 57)) := (Below.refl _ _).alloc (Nat.le_refl _) _
  have hs := some_any hT1 hR.lt x.a x.b 143 #[.pointer (some ⟨w.heap.size, 0, none⟩)] (agP x) (enters_of Tryd.func143 (by kernel_rfl) rfl)
    (fun c m W _ _ hB => ag1_any w.heap.size x ((made_cell hB 2).trans rfl) ((made_cell hB 3).trans rfl) c m)
  have HB := Lib.hid hbA
  clear hbA hT1
  unfold rng at hs
  unfold Hd.val
  go_enter Tryd.func124, Tryd.ntmps124
  go_wp2_with (go_at_call 71; refine hs.mono ?_; clear hs; rintro e w1 ⟨v, rfl, ho, hb⟩)
  go_ret
  exact ⟨v, rfl, ownsRow_base ho fun k hk => by have := (ho.lt k hk).1; simp at this; omega, HB.out.trans (hb.mono HB.out.size)⟩
set_option maxRecDepth 100000 in
theorem cut1_any (B c' : Nat) (h0 : w.cell? ⟨B, 0, none⟩ = some (.int .i64 (c' : Int))) (c m : Nat) :
    Calls Tryd.prog 144 #[.int .i64 (c : Int), .int .i64 (m : Int), .pointer (some ⟨B, 0, none⟩)] w fun e w' => e = .returned (.bool (decide (c = c'))) ∧ w = w' := by
  have e1 : ((c : Int) == (c' : Int)) = decide (c = c') := by
    by_cases h : c = c'
    · simp [h]
    · have : ((c : Int) == (c' : Int)) = false := by simp; omega
      simp [h, this]
  go_enter Tryd.func144, Tryd.ntmps144
  go_wp2_with fail
  go_ret
  exact ⟨by first | rfl | exact congrArg _ (congrArg _ e1), rfl⟩
set_option maxRecDepth 100000 in
theorem cut2_any (m : Nat) : Calls Tryd.prog 146 #[.int .u8 (m : Int)] w fun e w' => e = .returned (.int .u8 ((0 : Nat) : Int)) ∧ w = w' := by
  go_enter Tryd.func146, Tryd.ntmps146
  go_wp2_with fail
  go_ret
  exact ⟨rfl, rfl⟩
set_option maxRecDepth 100000 in
theorem weak1_any (B c' : Nat) (h0 : w.cell? ⟨B, 0, none⟩ = some (.int .i64 (c' : Int))) (c m : Nat) :
    Calls Tryd.prog 147 #[.int .i64 (c : Int), .int .i64 (m : Int), .pointer (some ⟨B, 0, none⟩)] w fun e w' => e = .returned (.bool (decide (c = c') && decide (m = 2))) ∧ w = w' := by
  by_cases h : c = c'
  · have e1 : ((c : Int) == (c' : Int)) = true := by simp [h]
    have e2 : ((m : Int) == 2) = decide (m = 2) := by
      by_cases h : m = 2
      · simp [h]
      · have : ((m : Int) == 2) = false := by simp; omega
        simp [h, this]
    rw [decide_eq_true h, Bool.true_and]
    go_enter Tryd.func147, Tryd.ntmps147
    go_wp2_with fail
    go_ret
    exact ⟨by first | rfl | simp, rfl⟩
  · have e1 : ((c : Int) == (c' : Int)) = false := by simp; omega
    rw [decide_eq_false h, Bool.false_and]
    go_enter Tryd.func147, Tryd.ntmps147
    go_wp2_with fail
    go_ret
    exact ⟨rfl, rfl⟩
set_option maxRecDepth 100000 in
theorem weak2_any (m : Nat) : Calls Tryd.prog 148 #[.int .u8 (m : Int)] w fun e w' => e = .returned (.int .u8 ((min m 1 : Nat) : Int)) ∧ w = w' := by
  go_enter Tryd.func148, Tryd.ntmps148
  go_wp2_with fail
  all_goals go_ret
  all_goals exact ⟨by first | (rw [show (min m 1 : Nat) = 1 by omega]; rfl) | (rw [show (min m 1 : Nat) = m by omega]; rfl), rfl⟩
set_option maxRecDepth 100000 in
set_option maxHeartbeats 2000000 in
theorem cut_any (h : IsTab w b R) (hR : Small R) (c a z : Nat) (hc : c < 8) :
    Calls Tryd.prog 125 #[.pointer (some ⟨b, 0, none⟩), .int .i64 (c : Int), rng a z] w fun e w' => (∃ v, e = .returned v) ∧ IsTab w' b (setR R c a z fun _ => 0) ∧ Moves (fun k => k = b) w w' := by
  have hbA : Below w.heap.size w ((w.alloc (.cells #[.int .i64 (c : Int)] 3)).alloc (.cells #[.int .i64 (a : Int), .int .i64 (z : Int)] 34)) := ((Below.refl _ _).alloc (Nat.le_refl _) _).alloc (by simp) _
  have hT1 : IsTab ((w.alloc (.cells #[.int .i64 (c : Int)] 3)).alloc (.cells #[.int .i64 (a : Int), .int .i64 (z : Int)] 34)) b R := h.keep (hbA.block b h.lt)
  have hc0 : ∀ W, Below ((w.alloc (.cells #[.int .i64 (c : Int)] 3)).alloc (.cells #[.int .i64 (a : Int), .int .i64 (z : Int)] 34)).heap.size ((w.alloc (.cells #[.int .i64 (c : Int)] 3)).alloc (.cells #[.int .i64 (a : Int), .int .i64 (z : Int)] 34)) W →
      W.cell? ⟨w.heap.size, 0, none⟩ = some (.int .i64 (c : Int)) ∧ W.cell? ⟨w.heap.size + 1, 0, none⟩ = some (.int .i64 (a : Int)) ∧ W.cell? ⟨w.heap.size + 1, 1, none⟩ = some (.int .i64 (z : Int)) := fun W hB => by
    have h1 : Below (w.alloc (.cells #[.int .i64 (c : Int)] 3)).heap.size (w.alloc (.cells #[.int .i64 (c : Int)] 3)) W := ((Below.refl _ _).alloc (Nat.le_refl _) _).trans (hB.mono (by simp))
    have h2 := made_cell hB 0
    have h3 := made_cell hB 1
    rw [World.size_alloc] at h2 h3
    exact ⟨(made_cell h1 0).trans rfl, h2.trans rfl, h3.trans rfl⟩
  have hs := some_any hT1 hR.lt a z 144 #[.pointer (some ⟨w.heap.size, 0, none⟩)] (fun i _ => decide (i = c)) (enters_of Tryd.func144 (by kernel_rfl) rfl)
    (fun i m W _ _ hB => cut1_any w.heap.size c (hc0 W hB).1 i m)
  have hset := fun (W : World) (hT : IsTab W b R) => set_any hT hR.lt c a z hc 146 #[] (fun _ => 0) (enters_of Tryd.func146 (by kernel_rfl) rfl) (fun m W _ _ => cut2_any m)
  have HB := Lib.hid hbA
  have HT := Lib.hid hT1
  have H0 := Lib.hid hc0
  clear hbA hT1 hc0
  unfold rng at hs hset ⊢
  go_enter Tryd.func125, Tryd.ntmps125
  go_wp2_with (first
    | (go_at_call 71; refine hs.mono ?_; clear hs; rintro e w1 ⟨v, rfl, ho, hb⟩
       obtain ⟨c0, c1, c2⟩ := H0.out _ hb
       have HB1 := Lib.hid hb
       clear hb ho)
    | (go_at_call 145; refine (hset _ (HT.out.keep (HB1.out.block b HT.out.lt))).mono ?_; clear hset; rintro e w2 ⟨⟨v2, rfl⟩, hT2, hM2⟩
       have HT2 := Lib.hid hT2
       have HM2 := Lib.hid hM2
       clear hT2 hM2))
  go_ret
  exact ⟨⟨_, rfl⟩, HT2.out, (Moves.of_below (HB.out.trans (HB1.out.mono HB.out.size))).trans HM2.out fun i hi => .inl hi⟩
set_option maxRecDepth 100000 in
set_option maxHeartbeats 2000000 in
theorem weaken_any (h : IsTab w b R) (hR : Small R) (c a z : Nat) (hc : c < 8) :
    Calls Tryd.prog 127 #[.pointer (some ⟨b, 0, none⟩), .int .i64 (c : Int), rng a z] w fun e w' => (∃ v, e = .returned v) ∧ IsTab w' b (setR R c a z fun m => min m 1) ∧ Moves (fun k => k = b) w w' := by
  have hbA : Below w.heap.size w ((w.alloc (.cells #[.int .i64 (c : Int)] 3)).alloc (.cells #[.int .i64 (a : Int), .int .i64 (z : Int)] 34)) := ((Below.refl _ _).alloc (Nat.le_refl _) _).alloc (by simp) _
  have hT1 : IsTab ((w.alloc (.cells #[.int .i64 (c : Int)] 3)).alloc (.cells #[.int .i64 (a : Int), .int .i64 (z : Int)] 34)) b R := h.keep (hbA.block b h.lt)
  have hc0 : ∀ W, Below ((w.alloc (.cells #[.int .i64 (c : Int)] 3)).alloc (.cells #[.int .i64 (a : Int), .int .i64 (z : Int)] 34)).heap.size ((w.alloc (.cells #[.int .i64 (c : Int)] 3)).alloc (.cells #[.int .i64 (a : Int), .int .i64 (z : Int)] 34)) W →
      W.cell? ⟨w.heap.size, 0, none⟩ = some (.int .i64 (c : Int)) ∧ W.cell? ⟨w.heap.size + 1, 0, none⟩ = some (.int .i64 (a : Int)) ∧ W.cell? ⟨w.heap.size + 1, 1, none⟩ = some (.int .i64 (z : Int)) := fun W hB => by
    have h1 : Below (w.alloc (.cells #[.int .i64 (c : Int)] 3)).heap.size (w.alloc (.cells #[.int .i64 (c : Int)] 3)) W := ((Below.refl _ _).alloc (Nat.le_refl _) _).trans (hB.mono (by simp))
    have h2 := made_cell hB 0
    have h3 := made_cell hB 1
    rw [World.size_alloc] at h2 h3
    exact ⟨(made_cell h1 0).trans rfl, h2.trans rfl, h3.trans rfl⟩
  have hs := some_any hT1 hR.lt a z 147 #[.pointer (some ⟨w.heap.size, 0, none⟩)] (fun i m => decide (i = c) && decide (m = 2)) (enters_of Tryd.func147 (by kernel_rfl) rfl)
    (fun i m W _ _ hB => weak1_any w.heap.size c (hc0 W hB).1 i m)
  have hset := fun (W : World) (hT : IsTab W b R) => set_any hT hR.lt c a z hc 148 #[] (fun m => min m 1) (enters_of Tryd.func148 (by kernel_rfl) rfl) (fun m W _ _ => weak2_any m)
  have HB := Lib.hid hbA
  have HT := Lib.hid hT1
  have H0 := Lib.hid hc0
  clear hbA hT1 hc0
  unfold rng at hs hset ⊢
  go_enter Tryd.func127, Tryd.ntmps127
  go_wp2_with (first
    | (go_at_call 71; refine hs.mono ?_; clear hs; rintro e w1 ⟨v, rfl, ho, hb⟩
       obtain ⟨c0, c1, c2⟩ := H0.out _ hb
       have HB1 := Lib.hid hb
       clear hb ho)
    | (go_at_call 145; refine (hset _ (HT.out.keep (HB1.out.block b HT.out.lt))).mono ?_; clear hset; rintro e w2 ⟨⟨v2, rfl⟩, hT2, hM2⟩
       have HT2 := Lib.hid hT2
       have HM2 := Lib.hid hM2
       clear hT2 hM2))
  go_ret
  exact ⟨⟨_, rfl⟩, HT2.out, (Moves.of_below (HB.out.trans (HB1.out.mono HB.out.size))).trans HM2.out fun i hi => .inl hi⟩
set_option maxRecDepth 100000 in
theorem drop_any (h : IsTab w b R) (hR : Small R) (hW : Whole w) (c : Nat) (hc : c < 8) :
    Calls Tryd.prog 135 #[.pointer (some ⟨b, 0, none⟩), .int .i64 (c : Int)] w fun e w' => (∃ v, e = .returned v) ∧ IsTab w' b (setR R c 0 256 fun _ => 0) ∧ Moves (fun k => k = b) w w' := by
  have hcut := cut_any h hR c 0 256 hc
  have e1 := hW.a
  have e2 := hW.z
  unfold rng at hcut
  go_enter Tryd.func135, Tryd.ntmps135
  go_wp2_with (go_at_call 125; refine hcut.mono ?_; clear hcut; rintro e w1 ⟨⟨v, rfl⟩, hT, hM⟩)
  go_ret
  exact ⟨⟨_, rfl⟩, hT, hM⟩
def zRow : List Value := List.replicate 2048 (.int .u8 0)
theorem Tryd.infoTab : (Tryd.prog.info? 126).map (fun i => (i.zero, i.size)) = some (some (.agg zRow.toArray), 2048) := by kernel_rfl
set_option maxRecDepth 100000 in
theorem snew_any : Calls Tryd.prog 15 #[] w fun e w' => e = .returned (.pointer (some ⟨w.heap.size, 0, none⟩)) ∧ IsTab w' w.heap.size (fun _ _ => 0) ∧ Below w.heap.size w w' := by
  have hz := (zero_of_info Tryd.infoTab).1
  have hfin : IsTab (w.alloc (.cells zRow.toArray 126)) w.heap.size (fun _ _ => 0) ∧ Below w.heap.size w (w.alloc (.cells zRow.toArray 126)) := by
    refine ⟨⟨fun c k hc hk => ?_, fun o => World.frozen?_alloc_new _ _ _ _⟩, (Below.refl _ _).alloc (Nat.le_refl _) _⟩
    rw [World.cell?_alloc_new, List.getElem?_toArray]
    unfold zRow
    rw [List.getElem?_replicate, if_pos (by omega)]
    rfl
  have HF := Lib.hid hfin
  clear hfin
  go_enter Tryd.func15, Tryd.ntmps15
  go_wp2_with fail
  go_ret
  exact ⟨rfl, HF.out⟩
end
end Go.Proofs.YtfjfkmoofmncnaaDoor
