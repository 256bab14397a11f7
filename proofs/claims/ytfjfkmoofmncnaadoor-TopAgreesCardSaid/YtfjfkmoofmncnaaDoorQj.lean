/- quorum: Learn. -/
import Derived.Test.YtfjfkmoofmncnaaDoorQh
namespace Go.Proofs.YtfjfkmoofmncnaaDoor
open Go.RowKit
/-- What Learn leaves. -/
def PX.take (s : PX ByteArray) (i o : Nat) : PX ByteArray := if (s.log i).length < (s.log o).length then s.learn i (s.log o) else s
section
variable {w : World} {q : QP} {X I : Nat → Prop} {f : Lit → Option Value} {n : Nat} {s : PX ByteArray}
set_option maxRecDepth 100000 in
set_option maxHeartbeats 8000000 in
theorem learn_any (h : IsQ w q X I f n s) {i o : Nat} (hi : i < 3) (ho : o < 3) (hl : ∀ j, j < 3 → (s.log j).length ≤ 1000) :
    Calls Tryd.prog 9 #[.pointer (some ⟨q.gb, 0, none⟩), .int .i64 (i : Int), .int .i64 (o : Int)] w fun e w' => (∃ v, e = .returned v) ∧ ∃ q' X', q'.gb = q.gb ∧ IsQ w' q' X' I f n (s.take i o) ∧ (∀ j, X' j → X j ∨ w.heap.size ≤ j) ∧ Moves X w w' := by
  have hh1 := qhas_any h.c0 (i : Int) (by omega) (by omega)
  have hh2 := qhas_any h.c0 (o : Int) (by omega) (by omega)
  have c0 := h.c0
  have ri := h.row i hi
  have ro := h.row o ho
  have n0i := h.n0 i hi
  have n0o := h.n0 o ho
  have li := h.n2 i hi
  have lo := h.n2 o ho
  obtain ⟨vai, vci, hli⟩ := row_lens (h.log i hi)
  obtain ⟨vao, vco, hlo⟩ := row_lens (h.log o ho)
  rw [hli] at li
  rw [hlo] at lo
  have zi : (i : Int) < 3 := by omega
  have zo : (o : Int) < 3 := by omega
  have hlz := hl i hi
  have hoz := hl o ho
  have H := Lib.hid h
  have HLI := Lib.hid hli
  have HLO := Lib.hid hlo
  clear h hli hlo hl
  go_enter Tryd.func9, Tryd.ntmps9
  go_upto_region 5 with (first
    | (go_at_call 22; refine hh1.mono ?_; clear hh1; rintro e wz ⟨rfl, rfl⟩)
    | (go_at_call 22; refine hh2.mono ?_; clear hh2; rintro e wz ⟨rfl, rfl⟩))
  go_quiet (fail)
  go_upto_region 6 with (fail)
  go_quiet (fail)
  by_cases hlt : (s.log i).length < (s.log o).length
  · have e1 : IntKind.i64.wrap (((s.log o).length : Int) - ((s.log i).length : Int)) = ((s.log o).length : Int) - ((s.log i).length : Int) := by rw [IntKind.wrap_i64]; omega
    have e2 : decide ((0 : Int) < ((s.log o).length : Int) - ((s.log i).length : Int)) = true := by simp; omega
    go_upto_region 7 with (fail)
    rw [if_pos hlt]
    generalize hW : (World.drewN _ nq) = W
    have hbW : Below w.heap.size w W := by rw [← hW]; exact ⟨rfl, rfl, rfl, Nat.le_refl _, fun _ _ => rfl⟩
    have hQ := H.out.below hbW
    have lo2 := hQ.n2 o ho
    rw [HLO.out] at lo2
    have hrow := hQ.log o ho
    rw [HLO.out] at hrow
    have hcl := sclone_any hrow (by omega)
    have li2 := hQ.n2 i hi
    have fi2 := hQ.fro i hi 2
    have hlt9 := hQ.lt _ (.inr (.inr (.inl ⟨i, hi, rfl⟩)))
    have HQ := Lib.hid hQ
    have HBW := Lib.hid hbW
    clear hQ hrow hbW hW c0 ri ro n0i n0o li lo
    go_wp2_with (go_at_call 35; refine hcl.mono ?_; clear hcl; rintro e w2 ⟨v', rfl, hr, hb⟩; have li3 := (World.cell?_of_block (a := ⟨q.nb i, 2, none⟩) (hb.block _ hlt9)).trans li2; have fi3 := (World.frozen?_of_block (a := ⟨q.nb i, 2, none⟩) (hb.block _ hlt9)).trans fi2; have HR := Lib.hid hr; have HB := Lib.hid hb; clear hr hb; obtain ⟨va', vc', rfl⟩ := row_lens HR.out)
    go_ret2
    have hL := HQ.out.learn hi (l := s.log o) (Moves.of_below HB.out) (ownsRow_base HR.out fun _ _ => Nat.zero_le _) (fun j hj => .inr (HR.out.lt j hj).1)
    refine ⟨⟨_, rfl⟩, _, _, ?_, by rw [PX.take, if_pos hlt]; exact hL, fun j hj => ?_, ?_⟩
    · rfl
    · rcases hj with hj | hj
      · exact .inl hj
      · exact .inr (Nat.le_trans HBW.out.size (HR.out.lt j hj).1)
    · exact ((Moves.of_below HBW.out).trans (Moves.of_below (F := fun _ => False) HB.out) fun _ e => e.elim).setCell _ _ (.inl (HQ.out.xs _ (.inr (.inr (.inl ⟨i, hi, rfl⟩)))))
  · have e1 : IntKind.i64.wrap (((s.log o).length : Int) - ((s.log i).length : Int)) = ((s.log o).length : Int) - ((s.log i).length : Int) := by rw [IntKind.wrap_i64]; omega
    go_upto_region 7 with (fail)
    rw [if_neg hlt]
    generalize hW : (World.drewN _ nq) = W
    have hbW : Below w.heap.size w W := by rw [← hW]; exact ⟨rfl, rfl, rfl, Nat.le_refl _, fun _ _ => rfl⟩
    go_wp2_with fail
    go_ret2
    exact ⟨⟨_, rfl⟩, q, X, rfl, by rw [PX.take, if_neg hlt]; exact H.out.below hbW, fun _ hj => .inl hj, Moves.of_below hbW⟩
end
end Go.Proofs.YtfjfkmoofmncnaaDoor
