/- shelf.lay: a block is laid. -/
import Derived.Test.YtkbncbkmaakpkaaDoorShM
namespace Go.Proofs.YtkbncbkmaakpkaaDoor
open Go.RowKit
def updA (A : Int → Option Pl) (x : Pl) (i : Int) : Option Pl := if i = (x.id : Int) then some x else A i
def updU (U : Int → Bool) (i : Nat) (v : Bool) (j : Int) : Bool := if j = (i : Int) then v else U j
theorem updA_val (A : Int → Option Pl) (x : Pl) : (fun i => if i = (x.id : Int) then some x.val else (A i).map Pl.val) = fun i => (updA A x i).map Pl.val := by
  funext i; unfold updA; split <;> rfl
theorem updU_true (U : Int → Bool) (i : Nat) : (fun j => if j = (i : Int) then some (Value.bool true) else usedV U j) = usedV (updU U i true) := by
  funext j; unfold usedV updU; split <;> rfl
theorem updU_false (U : Int → Bool) (i : Nat) : (fun j => if j = (i : Int) then none else usedV U j) = usedV (updU U i false) := by
  funext j; unfold usedV updU; split <;> rfl
section
variable {w : World} {b pb am um n : Nat} {A : Int → Option Pl} {U : Int → Bool} {bad err : Value}
set_option maxRecDepth 100000 in
set_option maxHeartbeats 2000000 in
theorem lay_new (h : IsSh w b pb am um n A U bad err) (hn : n < 1000000) (x : Pl) (hi : x.id < 1000000) (ha : x.at' < 1000000) (hA : A x.id = none) :
    Calls Tryd.prog 156 #[.pointer (some ⟨b, 0, none⟩), x.val] w fun e w' => e = .returned (.tuple #[]) ∧ IsSh w' b pb am um (n + 1) (updA A x) (updU U x.at' true) bad err ∧ Moves (fun k => k = am ∨ k = um) w w' := by
  have c1 := h.c1
  have c2 := h.c2
  have hbl := h.bl
  have wi : (Lit.int .i64 (x.id : Int)).wf = true := WalkArith.wf_i64 (by omega)
  have wa : (Lit.int .i64 (x.at' : Int)).wf = true := WalkArith.wf_i64 (by omega)
  have hb0 : Below w.heap.size w (w.alloc (.cells #[.int .i64 (x.id : Int), .int .i64 (x.ver : Int), .string x.d, .int .i64 (x.at' : Int)] 276)) := (Below.refl _ w).alloc (Nat.le_refl _) _
  have hl1 := look_place (h.below hb0.drew) x.id wi
  have hl2 := look_place (h.below (hb0.alloc (by simp) (.cells #[.int .i64 0, .int .i64 0, .string ⟨#[]⟩, .int .i64 0] 276)).drew) x.id wi
  rw [hA] at hl1 hl2
  simp only [Option.map_none, Option.getD_none, Option.isSome_none] at hl1 hl2
  have H := Lib.hid h
  clear h
  go_enter Tryd.func156, Tryd.ntmps156
  unfold Pl.val
  go_wp2_with fail
  go_region_both
  all_goals
    clear hl1 hl2 c1 c2
    go_wp2_with fail
    generalize hWW : ((w.alloc (.cells #[.int .i64 (x.id : Int), .int .i64 (x.ver : Int), .string x.d, .int .i64 (x.at' : Int)] 276)).alloc (.cells #[.int .i64 0, .int .i64 0, .string ⟨#[]⟩, .int .i64 0] 276)).drew = W
    have hbW : Below w.heap.size w W := by rw [← hWW]; exact (hb0.alloc (by simp) _).drew
    have hq : w.heap.size < W.heap.size := by rw [← hWW]; simp; omega
    obtain ⟨x0, x1, x2, x3⟩ : W.cell? ⟨w.heap.size, 0, none⟩ = some (.int .i64 (x.id : Int)) ∧ W.cell? ⟨w.heap.size, 1, none⟩ = some (.int .i64 (x.ver : Int)) ∧ W.cell? ⟨w.heap.size, 2, none⟩ = some (.string x.d) ∧ W.cell? ⟨w.heap.size, 3, none⟩ = some (.int .i64 (x.at' : Int)) := by rw [← hWW]; exact ⟨by simp, by simp, by simp, by simp⟩
    clear hWW hb0
    have h1 := H.out.below hbW
    have hqa : ∀ k, (k = am ∨ k = um) → k < w.heap.size := fun k hk => by
      rcases hk with rfl | rfl
      · exact H.out.ma.lt
      · exact H.out.mu.lt
    have hS : ∀ w', Moves (fun k => k = am ∨ k = um) W.drew w' → (w'.cell? ⟨b, 1, none⟩ = some (.map (some am)) ∧ w'.cell? ⟨b, 2, none⟩ = some (.map (some um)) ∧ w'.cell? ⟨w.heap.size, 0, none⟩ = some (.int .i64 (x.id : Int)) ∧ w'.cell? ⟨w.heap.size, 1, none⟩ = some (.int .i64 (x.ver : Int)) ∧ w'.cell? ⟨w.heap.size, 2, none⟩ = some (.string x.d) ∧ w'.cell? ⟨w.heap.size, 3, none⟩ = some (.int .i64 (x.at' : Int))) := fun w' hm => by
      have hbb := hm.block b h1.bl (fun hk => by rcases hk with hk | hk; exact h1.neA hk; exact h1.neU hk)
      have hqq := hm.block w.heap.size hq (fun hk => by have := hqa _ hk; omega)
      have e1 : ∀ o, w'.cell? ⟨b, o, none⟩ = W.cell? ⟨b, o, none⟩ := fun o => World.cell?_of_block (a := ⟨b, o, none⟩) hbb
      have e2 : ∀ o, w'.cell? ⟨w.heap.size, o, none⟩ = W.cell? ⟨w.heap.size, o, none⟩ := fun o => World.cell?_of_block (a := ⟨w.heap.size, o, none⟩) hqq
      exact ⟨(e1 _).trans h1.c1, (e1 _).trans h1.c2, (e2 _).trans x0, (e2 _).trans x1, (e2 _).trans x2, (e2 _).trans x3⟩
    have hnl : n < maxLen := by unfold maxLen; omega
    have hnU : um ≠ am := fun e => h1.ne e.symm
    have hnA : am ≠ um := h1.ne
    have hma : IMap Tryd.prog 3 W.drew am n fun i => (A i).map Pl.val := h1.ma
    have hmu : IMap Tryd.prog 3 W.drew um n (usedV U) := h1.mu
    obtain ⟨v0, st0, w2, hr2, hp2, hm2⟩ := hma.entry Tryd.underlying3 Tryd.underlying278 (Tryd.zPlace _) hnl (x.id : Int) wi
    obtain ⟨w3, hr3, ha3, hm3⟩ := hp2.store x.val
    have hM3 : Moves (fun k => k = am ∨ k = um) W.drew w3 := (hm2.mono fun i _ hi => .inl hi).trans hm3 fun i hi => .inl (.inl hi)
    have hmu3 : IMap Tryd.prog 3 w3 um n (usedV U) := (hmu.moves hm2 hnU).moves hm3 hnU
    obtain ⟨v1, st1, w4, hr4, hp4, hm4⟩ := hmu3.entry Tryd.underlying3 Tryd.underlying244 (Tryd.zBool _) hnl (x.at' : Int) wa
    obtain ⟨w5, hr5, hu5, hm5⟩ := hp4.store (.bool true)
    have hM4 : Moves (fun k => k = am ∨ k = um) W.drew w4 := hM3.trans hm4 fun i hi => .inl (.inr hi)
    have hM5 : Moves (fun k => k = am ∨ k = um) W.drew w5 := hM4.trans hm5 fun i hi => .inl (.inr hi)
    have ha5 := (ha3.moves hm4 hnA).moves hm5 hnA
    rw [updA_val] at ha5
    rw [updU_true] at hu5
    have hs0 := hS _ (Moves.refl _ _)
    have hs2 := hS w2 (hm2.mono fun i _ hi => .inl hi)
    have hs3 := hS w3 hM3
    have hs4 := hS w4 hM4
    have hs5 := hS w5 hM5
    have HF := Lib.hid (show IsSh w5 b pb am um (n + 1) (updA A x) (updU U x.at' true) bad err from (h1.keep (w' := W.drew) fun _ _ => rfl).maps hM5 ha5 hu5)
    have HM := Lib.hid (show Moves (fun k => k = am ∨ k = um) w w5 from (Moves.of_below hbW).drew.trans hM5 fun i hi => .inl hi)
    unfold Pl.val at hr3
    clear hm2 hm3 hm4 hm5 hp2 hp4 hM3 hM4 hM5 ha3 ha5 hu5 hma hmu hmu3 h1 hS hbW H
    go_region_held3 (fun w' => w'.cell? ⟨b, 1, none⟩ = some (.map (some am)) ∧ w'.cell? ⟨b, 2, none⟩ = some (.map (some um)) ∧ w'.cell? ⟨w.heap.size, 0, none⟩ = some (.int .i64 (x.id : Int)) ∧ w'.cell? ⟨w.heap.size, 1, none⟩ = some (.int .i64 (x.ver : Int)) ∧ w'.cell? ⟨w.heap.size, 2, none⟩ = some (.string x.d) ∧ w'.cell? ⟨w.heap.size, 3, none⟩ = some (.int .i64 (x.at' : Int))) (first | exact hs0 | exact hs2 | exact hs3 | exact hs4 | exact hs5) (fail)
    go_wp2_with fail
    go_end0
    exact ⟨rfl, HF.out, HM.out⟩
set_option maxRecDepth 100000 in
set_option maxHeartbeats 2000000 in
/-- .. over an older one. -/
theorem lay_over (h : IsSh w b pb am um n A U bad err) (hn : n < 1000000) (x p : Pl) (hi : x.id < 1000000) (ha : x.at' < 1000000) (hpa : p.at' < 1000000) (hA : A x.id = some p) (hv : p.ver < x.ver) :
    Calls Tryd.prog 156 #[.pointer (some ⟨b, 0, none⟩), x.val] w fun e w' => e = .returned (.tuple #[]) ∧ IsSh w' b pb am um (n + 1) (updA A x) (updU (updU U p.at' false) x.at' true) bad err ∧ Moves (fun k => k = am ∨ k = um) w w' := by
  have c1 := h.c1
  have c2 := h.c2
  have hbl := h.bl
  have wi : (Lit.int .i64 (x.id : Int)).wf = true := WalkArith.wf_i64 (by omega)
  have wa : (Lit.int .i64 (x.at' : Int)).wf = true := WalkArith.wf_i64 (by omega)
  have wp : (Lit.int .i64 (p.at' : Int)).wf = true := WalkArith.wf_i64 (by omega)
  have hdv : decide ((x.ver : Int) ≤ (p.ver : Int)) = false := by simp; omega
  have hb0 : Below w.heap.size w (w.alloc (.cells #[.int .i64 (x.id : Int), .int .i64 (x.ver : Int), .string x.d, .int .i64 (x.at' : Int)] 276)) := (Below.refl _ w).alloc (Nat.le_refl _) _
  have hl1 := look_place (h.below hb0.drew) x.id wi
  have hl2 := look_place (h.below (hb0.alloc (by simp) (.cells #[.int .i64 0, .int .i64 0, .string ⟨#[]⟩, .int .i64 0] 276)).drew) x.id wi
  rw [hA] at hl1 hl2
  simp only [Option.map_some, Option.getD_some, Option.isSome_some, Pl.val] at hl1 hl2
  have H := Lib.hid h
  clear h
  go_enter Tryd.func156, Tryd.ntmps156
  unfold Pl.val
  go_wp2_with fail
  go_region_both
  all_goals
    clear hl1 hl2
    generalize hWW : ((w.alloc (.cells #[.int .i64 (x.id : Int), .int .i64 (x.ver : Int), .string x.d, .int .i64 (x.at' : Int)] 276)).alloc (.cells #[.int .i64 (p.id : Int), .int .i64 (p.ver : Int), .string p.d, .int .i64 (p.at' : Int)] 276)).drew = W
    have hbW : Below w.heap.size w W := by rw [← hWW]; exact (hb0.alloc (by simp) _).drew
    have hq : w.heap.size < W.heap.size := by rw [← hWW]; simp; omega
    obtain ⟨x0, x1, x2, x3⟩ : W.cell? ⟨w.heap.size, 0, none⟩ = some (.int .i64 (x.id : Int)) ∧ W.cell? ⟨w.heap.size, 1, none⟩ = some (.int .i64 (x.ver : Int)) ∧ W.cell? ⟨w.heap.size, 2, none⟩ = some (.string x.d) ∧ W.cell? ⟨w.heap.size, 3, none⟩ = some (.int .i64 (x.at' : Int)) := by rw [← hWW]; exact ⟨by simp, by simp, by simp, by simp⟩
    obtain ⟨y1, y3⟩ : W.cell? ⟨w.heap.size + 1, 1, none⟩ = some (.int .i64 (p.ver : Int)) ∧ W.cell? ⟨w.heap.size + 1, 3, none⟩ = some (.int .i64 (p.at' : Int)) := by rw [← hWW]; exact ⟨by simp, by simp⟩
    clear hWW hb0
    have h1 := H.out.below hbW
    have c1 := h1.c1
    have c2 := h1.c2
    have hqa : ∀ k, (k = am ∨ k = um) → k < w.heap.size := fun k hk => by
      rcases hk with rfl | rfl
      · exact H.out.ma.lt
      · exact H.out.mu.lt
    have hS : ∀ w', Moves (fun k => k = am ∨ k = um) W.drew w' → (w'.cell? ⟨b, 1, none⟩ = some (.map (some am)) ∧ w'.cell? ⟨b, 2, none⟩ = some (.map (some um)) ∧ w'.cell? ⟨w.heap.size, 0, none⟩ = some (.int .i64 (x.id : Int)) ∧ w'.cell? ⟨w.heap.size, 1, none⟩ = some (.int .i64 (x.ver : Int)) ∧ w'.cell? ⟨w.heap.size, 2, none⟩ = some (.string x.d) ∧ w'.cell? ⟨w.heap.size, 3, none⟩ = some (.int .i64 (x.at' : Int))) := fun w' hm => by
      have hbb := hm.block b h1.bl (fun hk => by rcases hk with hk | hk; exact h1.neA hk; exact h1.neU hk)
      have hqq := hm.block w.heap.size hq (fun hk => by have := hqa _ hk; omega)
      have e1 : ∀ o, w'.cell? ⟨b, o, none⟩ = W.cell? ⟨b, o, none⟩ := fun o => World.cell?_of_block (a := ⟨b, o, none⟩) hbb
      have e2 : ∀ o, w'.cell? ⟨w.heap.size, o, none⟩ = W.cell? ⟨w.heap.size, o, none⟩ := fun o => World.cell?_of_block (a := ⟨w.heap.size, o, none⟩) hqq
      exact ⟨(e1 _).trans h1.c1, (e1 _).trans h1.c2, (e2 _).trans x0, (e2 _).trans x1, (e2 _).trans x2, (e2 _).trans x3⟩
    have hnl : n < maxLen := by unfold maxLen; omega
    have hnU : um ≠ am := fun e => h1.ne e.symm
    have hnA : am ≠ um := h1.ne
    have hma : IMap Tryd.prog 3 W.drew am n fun i => (A i).map Pl.val := h1.ma
    have hmu : IMap Tryd.prog 3 W.drew um n (usedV U) := h1.mu
    have HMU := Lib.hid hmu
    have HMA := Lib.hid hma
    have HS := Lib.hid hS
    have H1 := Lib.hid h1
    have HBW := Lib.hid hbW
    clear hmu hma hS h1 hbW H
    go_wp2_with fail
    refine wp_region_still_tail 6 (by kernel_rfl) (by kernel_rfl) ?_
    simp only [List.take_succ_cons, List.take_zero, List.drop_succ_cons, List.drop_zero]
    iterate 6 still_step
    refine wpStill_nil ?_
    go_wp2_with (first
      | (at_delete
         refine wpList_drop_int _ Tryd.underlying3 rfl (.tmp 31) (.tmp 33) 244 rfl Tryd.underlying244 um n _ rfl HMU.out (p.at' : Int) rfl wp ?_))
    intro wd hud hmd
    rw [updU_false] at hud
    have hMd : Moves (fun k => k = am ∨ k = um) W.drew wd := hmd.mono fun i _ hi => .inr hi
    have hmad : IMap Tryd.prog 3 wd.drew am n fun i => (A i).map Pl.val := (HMA.out.moves hmd hnA).keep rfl
    have hmud : IMap Tryd.prog 3 wd.drew um n (usedV (updU U p.at' false)) := hud.keep rfl
    have hM1 : Moves (fun k => k = am ∨ k = um) W.drew wd.drew := hMd.drew
    obtain ⟨v0, st0, w2, hr2, hp2, hm2⟩ := hmad.entry Tryd.underlying3 Tryd.underlying278 (Tryd.zPlace _) hnl (x.id : Int) wi
    obtain ⟨w3, hr3, ha3, hm3⟩ := hp2.store x.val
    have hM2 : Moves (fun k => k = am ∨ k = um) W.drew w2 := hM1.trans hm2 fun i hi => .inl (.inl hi)
    have hM3 : Moves (fun k => k = am ∨ k = um) W.drew w3 := hM2.trans hm3 fun i hi => .inl (.inl hi)
    have hmu3 : IMap Tryd.prog 3 w3 um n (usedV (updU U p.at' false)) := (hmud.moves hm2 hnU).moves hm3 hnU
    obtain ⟨v1, st1, w4, hr4, hp4, hm4⟩ := hmu3.entry Tryd.underlying3 Tryd.underlying244 (Tryd.zBool _) hnl (x.at' : Int) wa
    obtain ⟨w5, hr5, hu5, hm5⟩ := hp4.store (.bool true)
    have hM4 : Moves (fun k => k = am ∨ k = um) W.drew w4 := hM3.trans hm4 fun i hi => .inl (.inr hi)
    have hM5 : Moves (fun k => k = am ∨ k = um) W.drew w5 := hM4.trans hm5 fun i hi => .inl (.inr hi)
    have ha5 := (ha3.moves hm4 hnA).moves hm5 hnA
    rw [updA_val] at ha5
    rw [updU_true] at hu5
    have hs0 := HS.out _ hM1
    have hs2 := HS.out w2 hM2
    have hs3 := HS.out w3 hM3
    have hs4 := HS.out w4 hM4
    have hs5 := HS.out w5 hM5
    have HF := Lib.hid (show IsSh w5 b pb am um (n + 1) (updA A x) (updU (updU U p.at' false) x.at' true) bad err from (H1.out.keep (w' := W.drew) fun _ _ => rfl).maps hM5 ha5 hu5)
    have HM := Lib.hid (show Moves (fun k => k = am ∨ k = um) w w5 from (Moves.of_below HBW.out).drew.trans hM5 fun i hi => .inl hi)
    unfold Pl.val at hr3
    clear hm2 hm3 hm4 hm5 hp2 hp4 hM1 hM2 hM3 hM4 hM5 hMd hmd hud hmad hmud ha3 ha5 hu5 hmu3 c1 c2 x0 x1 x2 x3 y1 y3
    go_wp2_with fail
    go_region_held3 (fun w' => w'.cell? ⟨b, 1, none⟩ = some (.map (some am)) ∧ w'.cell? ⟨b, 2, none⟩ = some (.map (some um)) ∧ w'.cell? ⟨w.heap.size, 0, none⟩ = some (.int .i64 (x.id : Int)) ∧ w'.cell? ⟨w.heap.size, 1, none⟩ = some (.int .i64 (x.ver : Int)) ∧ w'.cell? ⟨w.heap.size, 2, none⟩ = some (.string x.d) ∧ w'.cell? ⟨w.heap.size, 3, none⟩ = some (.int .i64 (x.at' : Int))) (first | exact hs0 | exact hs2 | exact hs3 | exact hs4 | exact hs5) (fail)
    go_wp2_with fail
    go_end0
    exact ⟨rfl, HF.out, HM.out⟩
end
end Go.Proofs.YtkbncbkmaakpkaaDoor
