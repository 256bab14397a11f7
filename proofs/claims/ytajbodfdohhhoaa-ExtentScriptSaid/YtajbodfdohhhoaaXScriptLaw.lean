/- ExtentScript is true for every input. No condition. Printed by gen_law.py. -/
import Derived.Test.YtajbodfdohhhoaaXScriptW
import Derived.Test.YtajbodfdohhhoaaPost
import Derived.Test.YtajbodfdohhhoaaArgs
import Derived.ChangeMaps5
namespace Go.Proofs.Ytajbodfdohhhoaa.extentScript
open Go.ChangeShapes Go.WideShapes Go.ChangeAt Go.RowKit

theorem own : ownKnob Try.prog.godebug = none := by kernel_rfl
theorem laidOut : laidOutB Try.prog = true := by kernel_rfl
set_option maxRecDepth 100000 in
theorem lifted (os : Os) (started : os.Started) (H : Type) (enc : TypeId × Value → H) :
    ReturnsInHanded {} Try.checked os 7 .any (Rows.extentScriptSpec.pre6 enc Try.prog Try.f7 Rows.extentScriptRow.domain false) (Rows.extentScriptSpec.post enc Try.prog Try.f7 false true false false) := by
  refine returnsInHanded_of_change (C := Try.checked) own started (by kernel_rfl) Try.func7
    (ChangeSpec.witness6 (enc := enc) (C := Try.checked) false ⟨#[], #[.int .i64 0, .slice none 0 0, .int .i64 0], []⟩ 8 (by kernel_rfl) (by kernel_rfl) (by kernel_rfl) (by kernel_rfl)) ?_
  intro W base args ds gs before hval0 hW _ _
  have hval : ∀ (j : Nat) t v, Try.f7.params[j]? = some t → args[j]? = some v → Value.okWide Try.prog W .any base t v := hval0
  have hW' := hW
  obtain ⟨p, q, hA0, hV, rfl, hfz, hnd⟩ := hW
  have hA : DataW.TrodAll enc Try.prog W 0 (fun _ => true) true Try.f7.params.toList args.toList ds p := hA0
  rw [Try.params7] at hA hval
  obtain ⟨v0, vs0, d0, ds0, p0, q0, hargs, rfl, rfl, h0, r0⟩ := trodAll_cons hA
  obtain ⟨v1, vs1, d1, ds1, p1, q1, rfl, rfl, rfl, h1, r1⟩ := trodAll_cons r0
  obtain ⟨v2, vs2, d2, ds2, p2, q2, rfl, rfl, rfl, h2, r2⟩ := trodAll_cons r1
  obtain ⟨rfl, rfl, rfl⟩ := trodAll_nil r2
  obtain rfl : args = #[v0, v1, v2] := by cases args; simp_all
  obtain ⟨rfl, rfl⟩ := trodVars_none hV
  obtain ⟨a0, rfl, rfl, rfl, w0⟩ := open_int Try.underlying3 (hval 0 3 v0 rfl rfl) h0
  have b0 := bounds_i64 w0
  have hlt1 : ∀ x ∈ p1, x.block < W.heap.size := fun x hx => hW'.lt x (by simp [hx])
  have k1 := h1
  obtain ⟨l1, hl1, hf1⟩ := open_steps (hval 1 22 v1 rfl rfl) h1
  obtain ⟨a2, rfl, rfl, rfl, w2⟩ := open_int Try.underlying3 (hval 2 3 v2 rfl rfl) h2
  have b2 := bounds_i64 w2
  clear hA0 hval0
  refine (extentscript_any a0 hl1 a2).mono fun e W' ⟨he, hb⟩ => ?_
  subst he
  refine ⟨_, rfl, post_law hW' (fun _ _ _ => (trodAll_cons_mk (shut_bool Try.underlying4 _) trodAll_mk0)) ?_ rfl hb⟩
  have e2 := trodAll_cons_mk (shut_int (enc := enc) (P := Try.prog) (w := W') (base := 0) (spare := fun b => decide (b < W.heap.size)) (held := true) Try.underlying3 w2) (trodAll_mk0 (enc := enc) (P := Try.prog) (w := W') (base := 0) (spare := fun b => decide (b < W.heap.size)) (held := true))
  have e1 := trodAll_cons_mk (Below.trod laidOut (by kernel_rfl) (of_decide_eq_true (by kernel_rfl)) k1 hb hlt1) e2
  have e0 := trodAll_cons_mk (shut_int (enc := enc) (P := Try.prog) (w := W') (base := 0) (spare := fun b => decide (b < W.heap.size)) (held := true) Try.underlying3 w0) e1
  simp only [List.append_nil] at e0 ⊢
  exact e0

theorem over : Rows.extentScriptRow.holds Try.pinned (OpenSpec.ofChange Rows.extentScriptSpec) :=
  OpenClaim.holds_of_wide 7 Try.f7 rfl rfl rfl rfl rfl rfl rfl ⟨rfl, rfl, rfl, rfl, rfl⟩ rfl rfl rfl rfl rfl (by kernel_rfl) Try.func7 (by kernel_rfl)
    (of_decide_eq_true (by kernel_rfl)) (by unfold Func.isWrapper; first | (rw [if_pos (by decide +kernel)]; kernel_rfl) | (rw [if_neg (by decide +kernel)]; exact ⟨rfl, rfl⟩))
    (fun os started H enc _ => lifted os started H enc)

theorem proved : Rows.ExtentScriptSaid := over
#print axioms proved
end Go.Proofs.Ytajbodfdohhhoaa.extentScript
