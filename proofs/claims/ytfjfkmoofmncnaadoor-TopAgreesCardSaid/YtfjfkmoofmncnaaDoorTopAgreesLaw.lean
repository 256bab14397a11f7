/- TopAgrees is true for every input. No condition but that the listed variables hold what the program's text lays (the card ties them). Printed by gen_agl.py. -/
import Derived.Test.YtfjfkmoofmncnaaDoorAgW
import Derived.Test.YtfjfkmoofmncnaaDoorPost
import Derived.Test.YtfjfkmoofmncnaaDoorArgs
import Derived.ChangeMaps5
import Derived.Test.YtfjfkmoofmncnaaDoorAgD
import Derived.Test.YtfjfkmoofmncnaaDoorCards
import Derived.Test.YtfjfkmoofmncnaaDoorTie
import Derived.SevenTiedAt
namespace Go.Proofs.YtfjfkmoofmncnaaDoor.topAgrees
open Go.ChangeShapes Go.WideShapes Go.ChangeAt Go.RowKit

theorem own : ownKnob Tryd.prog.godebug = none := by kernel_rfl
theorem laidOut : laidOutB Tryd.prog = true := by kernel_rfl
theorem laidIs {W : World} (h : laidMetH Tryd.prog Rows.topAgreesRow.laid W) : laidMetH Tryd.prog laidL W := h
set_option maxRecDepth 100000 in
theorem lifted (os : Os) (started : os.Started) (H : Type) (enc : TypeId × Value → H) :
    ReturnsInHanded {} Tryd.checked os 3 .any (fun w args => (Rows.topAgreesSpec.pre enc Tryd.prog Tryd.f3 [] false w args ∧ laidMetH Tryd.prog Rows.topAgreesRow.laid w) ∧ sizedMet enc Tryd.prog Tryd.f3 (OpenSpec.ofChange Rows.topAgreesSpec) false w args) (Rows.topAgreesSpec.post enc Tryd.prog Tryd.f3 false true false false) := by
  refine returnsInHanded_of_change_and (C := Tryd.checked) (X := fun w _ => laidMetH Tryd.prog Rows.topAgreesRow.laid w) (fun _ _ _ hh h => h.of_heap hh) own started (by kernel_rfl) Tryd.func3
    (ChangeSpec.witness_shaped (enc := enc) (C := Tryd.checked) (os := os) (X := fun w _ => laidMetH Tryd.prog Rows.topAgreesRow.laid w) false (World.doorLaid Tryd.prog 600 os) #[.slice none 0 0, .slice none 0 0, .slice none 0 0] 8 rfl (World.shaped_of_RefB (by kernel_rfl) (by kernel_rfl)) (by kernel_rfl) (by kernel_rfl) (by kernel_rfl) (laidWorld_met os _)) ?_
  intro W base args ds gs before hval0 hW _ _ hL _
  have hT := whole_of_laid (laidIs hL)
  have hE := kinds_of_laid (laidIs hL)
  have hval : ∀ (j : Nat) t v, Tryd.f3.params[j]? = some t → args[j]? = some v → Value.okWide Tryd.prog W .any base t v := hval0
  have hW' := hW
  obtain ⟨p, q, hA0, hV, rfl, hfz, hnd⟩ := hW
  have hA : DataW.TrodAll enc Tryd.prog W 0 (fun _ => true) true Tryd.f3.params.toList args.toList ds p := hA0
  rw [Tryd.params3] at hA hval
  obtain ⟨v0, vs0, d0, ds0, p0, q0, hargs, rfl, rfl, h0, r0⟩ := trodAll_cons hA
  obtain ⟨v1, vs1, d1, ds1, p1, q1, rfl, rfl, rfl, h1, r1⟩ := trodAll_cons r0
  obtain ⟨v2, vs2, d2, ds2, p2, q2, rfl, rfl, rfl, h2, r2⟩ := trodAll_cons r1
  obtain ⟨rfl, rfl, rfl⟩ := trodAll_nil r2
  obtain rfl : args = #[v0, v1, v2] := by cases args; simp_all
  obtain ⟨rfl, rfl⟩ := trodVars_none hV
  have hlt0 : ∀ x ∈ p0, x.block < W.heap.size := fun x hx => hW'.lt x (by simp [hx])
  have k0 := h0
  obtain ⟨l0, hl0, hf0⟩ := open_cmds (hval 0 22 v0 rfl rfl) h0
  have hlt1 : ∀ x ∈ p1, x.block < W.heap.size := fun x hx => hW'.lt x (by simp [hx])
  have k1 := h1
  obtain ⟨l1, hl1, hf1⟩ := open_losses (hval 1 23 v1 rfl rfl) h1
  have hlt2 : ∀ x ∈ p2, x.block < W.heap.size := fun x hx => hW'.lt x (by simp [hx])
  have k2 := h2
  obtain ⟨l2, hl2, hf2⟩ := open_nodes (hval 2 24 v2 rfl rfl) h2
  clear hA0 hval0
  refine (agrees_any hT hE hl0 hf0 hl1 hf1 hl2 hf2).mono fun e W' ⟨he, hb⟩ => ?_
  subst he
  refine ⟨_, rfl, post_law hW' (fun _ _ _ => (trodAll_cons_mk (shut_bool Tryd.underlying4 _) trodAll_mk0)) ?_ rfl hb⟩
  have e2 := trodAll_cons_mk (Below.trod laidOut (by kernel_rfl) (of_decide_eq_true (by kernel_rfl)) k2 hb hlt2) (trodAll_mk0 (enc := enc) (P := Tryd.prog) (w := W') (base := 0) (spare := fun b => decide (b < W.heap.size)) (held := true))
  have e1 := trodAll_cons_mk (Below.trod laidOut (by kernel_rfl) (of_decide_eq_true (by kernel_rfl)) k1 hb hlt1) e2
  have e0 := trodAll_cons_mk (Below.trod laidOut (by kernel_rfl) (of_decide_eq_true (by kernel_rfl)) k0 hb hlt0) e1
  simp only [List.append_nil] at e0 ⊢
  exact e0

theorem over : Rows.topAgreesRow.holds Tryd.pinned (OpenSpec.ofChange Rows.topAgreesSpec) :=
  OpenClaim.holds_of_wide 3 Tryd.f3 rfl rfl rfl rfl rfl rfl rfl ⟨rfl, rfl, rfl, rfl, rfl⟩ rfl rfl rfl rfl rfl (by kernel_rfl) Tryd.func3 (by kernel_rfl)
    (of_decide_eq_true (by kernel_rfl)) (by unfold Func.isWrapper; first | (rw [if_pos (by decide +kernel)]; kernel_rfl) | (rw [if_neg (by decide +kernel)]; exact ⟨rfl, rfl⟩))
    (fun os started H enc _ => lifted os started H enc)

/-- The card: the row, its listed variables tied to the program's text. -/
theorem proved : Rows.TopAgreesCardSaid :=
  Claim7.holds_tied_plain_at .later [] [.data, .funcs] true (true, "3c2c9c5bc6ce7fd78caa370d73073933e5027c70f9da5e9f79e3be0eb25d2536") false
    over (fun _ h => by cases h) (by kernel_rfl) (fun _ h => by cases h) topAgrees_row_tie rfl ⟨rfl, rfl⟩ (by kernel_rfl) rfl
    (fun f fn hf hfn => by
      obtain rfl : f = 3 := Option.some.inj ((show Tryd.prog.funcNamed "weirkeep/weirkeeptop.TopAgrees" = some 3 by kernel_rfl).symm.trans hf) |>.symm
      obtain rfl : fn = Tryd.f3 := (Option.some.inj (Tryd.func3.symm.trans hfn)).symm
      exact ⟨by kernel_rfl, fun j t ht => by
        rw [Tryd.params3] at ht
        have h3 : t = 22 ∨ t = 23 ∨ t = 24 := by
          match j, ht with
          | 0, ht => have := ht.symm; simp at this; simp [this]
          | 1, ht => have := ht.symm; simp at this; simp [this]
          | 2, ht => have := ht.symm; simp at this; simp [this]
          | j + 3, ht => simp at ht
        rcases h3 with rfl | rfl | rfl
        · exact (show Tryd.prog.wantsStandIn 22 = false by kernel_rfl)
        · exact (show Tryd.prog.wantsStandIn 23 = false by kernel_rfl)
        · exact (show Tryd.prog.wantsStandIn 24 = false by kernel_rfl)⟩)
    (by kernel_rfl)
#print axioms proved
end Go.Proofs.YtfjfkmoofmncnaaDoor.topAgrees
