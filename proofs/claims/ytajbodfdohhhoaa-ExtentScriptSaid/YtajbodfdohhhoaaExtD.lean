/- DeleteFunc of two ranges. -/
import Derived.Test.YtajbodfdohhhoaaExtC
namespace Go.Proofs.Ytajbodfdohhhoaa
open Go.RowKit
theorem Try.zeroRg (w : World) : (zeroValue 27).run Try.prog w = .ok (.agg #[.int .i64 0, .int .i64 0]) w := by kernel_rfl
/-- What is left of two ranges: those that are not empty. -/
def left2 (x y : Rg) : List Rg := (if empR x then [] else [x]) ++ (if empR y then [] else [y])
/-- What DeleteFunc leaves. -/
def Left (w : World) (g : Nat) (x y : Rg) (e : Ending) (w' : World) : Prop := e = .returned (.slice (some ⟨g, 0, none⟩) (left2 x y).length 2) ∧ RowR w' (.slice (some ⟨g, 0, none⟩) (left2 x y).length 2) (left2 x y) ∧ Moves (fun k => k = g) w w'
section
variable {w : World}
set_option maxRecDepth 100000 in
set_option maxHeartbeats 4000000 in
theorem del2_any {g : Nat} {x y : Rg} (h : Blk w g 2 (x.cells ++ y.cells)) :
    Calls Try.prog 41 #[.slice (some ⟨g, 0, none⟩) 2 2, .func (.func 42) #[] #[]] w (Left w g x y) := by
  have hrow : RowR w (.slice (some ⟨g, 0, none⟩) 2 2) [x, y] := h.row (L := [x, y]) (Nat.le_refl _) (by rfl)
  have hidx := idx_emp hrow (by simp)
  have hbk : ∀ wr, Below w.heap.size w wr → Blk wr g 2 (x.cells ++ y.cells) := fun wr hb => h.keep (hb.block g h.lt)
  have Hbk := Lib.hid hbk
  have Hlt := Lib.hid h.lt
  cases hx : empR x
  · cases hy : empR y
    · have e1 : idxI (idxF empR [x, y]) 2 = -1 := by simp [idxF, hx, hy, idxI]
      have e2 : left2 x y = [x, y] := by simp [left2, hx, hy]
      rw [show [x, y].length = 2 from rfl, e1] at hidx
      have E2 := Lib.hid e2
      clear e1 e2 hx hy hrow hbk h
      go_enter Try.func41, Try.ntmps41
      go_wp2_with fail
      refine hidx.mono ?_
      rintro e w2 ⟨rfl, hb2⟩
      have HB2 := Lib.hid hb2
      clear hidx hb2
      go_wp2_with fail
      go_ret
      unfold Left
      rw [E2.out]
      exact ⟨rfl, (Hbk.out _ HB2.out).row (L := [x, y]) (Nat.le_refl _) (by rfl), Moves.of_below HB2.out⟩
    · have e1 : idxI (idxF empR [x, y]) 2 = 1 := by simp [idxF, hx, hy, idxI]
      have e2 : left2 x y = [x] := by simp [left2, hx, hy]
      rw [show [x, y].length = 2 from rfl, e1] at hidx
      have E2 := Lib.hid e2
      clear e1 e2 hx hy hrow hbk h
      go_enter Try.func41, Try.ntmps41
      go_wp2_with fail
      refine hidx.mono ?_
      rintro e w2 ⟨rfl, hb2⟩
      have hB := Hbk.out _ hb2
      have hcl : ∀ ty c, (Builtin.clear_ #[25] ty #[.slice (some ⟨g, 2, none⟩) 1 c]).run Try.prog w2 = .ok (.tuple #[]) (w2.setCells g 2 (zrs 1)) := fun ty c =>
        run_clear_rg w2 _ _ ty Try.underlying25 Try.zeroRg g 2 1 c (by decide) (fun j hj => hB.some (by omega)) (fun j _ => hB.frozen _)
      have hM : Moves (fun k => k = g) w (w2.setCells g 2 (zrs 1)) := (Moves.of_below hb2).setCells g 2 _ (.inl rfl)
      have hR := (hB.setCells 2 (zrs 1) (by rw [len_zrs]; omega)).row (L := [x]) (by simp) (by rfl)
      have HM := Lib.hid hM
      have HR := Lib.hid hR
      clear hidx hb2 hM hR hB
      go_wp2_with fail
      go_loop [5, 6] (fun i j => i = .int .i64 1 ∧ j = .int .i64 2) (fun _ _ => 0)
      case atStart => exact ⟨rfl, rfl⟩
      case round =>
        obtain ⟨rfl, rfl⟩ := hrel
        go_wp2_with fail
        go_ret
        unfold Left
        rw [E2.out]
        exact ⟨rfl, HR.out, HM.out⟩
  · have hput := fun W : World => put1_any (w := W) y
    cases hy : empR y
    · have e1 : idxI (idxF empR [x, y]) 2 = 0 := by simp [idxF, hx, idxI]
      have e2 : left2 x y = [y] := by simp [left2, hx, hy]
      rw [show [x, y].length = 2 from rfl, e1] at hidx
      rw [hy] at hput
      unfold Rg.val at hput
      have E2 := Lib.hid e2
      have Hput := Lib.hid hput
      clear e1 e2 hx hy hrow hbk h hput
      go_enter Try.func41, Try.ntmps41
      go_wp2_with fail
      refine hidx.mono ?_
      rintro e w2 ⟨rfl, hb2⟩
      have HB2 := Lib.hid hb2
      clear hidx hb2
      go_wp2_with fail
      go_loopw [5, 6] (fun i j wr => (i = .int .i64 0 ∧ j = .int .i64 1 ∧ Below w.heap.size w wr) ∨ (i = .int .i64 1 ∧ j = .int .i64 2 ∧ Blk wr g 2 (y.cells ++ y.cells) ∧ Moves (fun k => k = g) w wr)) (fun _ j _ => 2 - (intOf j).toNat)
      case atStart => exact .inl ⟨rfl, rfl, HB2.out⟩
      case round =>
        clear HB2
        rcases hrel with ⟨rfl, rfl, hb⟩ | ⟨rfl, rfl, hB, hM⟩
        · have hB := Hbk.out _ hb
          have q2 : wr.cell? ⟨g, 2, none⟩ = some (.int .i64 y.lo) := hB.cell 2
          have q3 : wr.cell? ⟨g, 3, none⟩ = some (.int .i64 y.hi) := hB.cell 3
          have HB := Lib.hid hb
          have hbA : Below w.heap.size w (wr.alloc (.cells y.cells.toArray 27)) := hb.alloc hb.size _
          have HbA := Lib.hid hbA
          clear hB hb hbA
          go_wp2_with fail
          refine (Hput.out _).mono ?_
          rintro e w3 ⟨rfl, hb3⟩
          have hb03 : Below w.heap.size w w3 := HbA.out.trans (hb3.mono HbA.out.size)
          have hB3 := Hbk.out _ hb03
          have c0 : w3.cell? ⟨g, 0, none⟩ = some (.int .i64 x.lo) := hB3.cell 0
          have c1 : w3.cell? ⟨g, 1, none⟩ = some (.int .i64 x.hi) := hB3.cell 1
          have f0 := hB3.frozen 0
          have f1 := hB3.frozen 1
          have hbk3 : w3.heap[wr.heap.size]? = (wr.alloc (.cells y.cells.toArray 27)).heap[wr.heap.size]? := hb3.block _ (by simp)
          have v0 : w3.cell? ⟨wr.heap.size, 0, none⟩ = some (.int .i64 y.lo) := (World.cell?_of_block (a := ⟨wr.heap.size, 0, none⟩) hbk3).trans (by rw [World.cell?_alloc_new]; rfl)
          have v1 : w3.cell? ⟨wr.heap.size, 1, none⟩ = some (.int .i64 y.hi) := (World.cell?_of_block (a := ⟨wr.heap.size, 1, none⟩) hbk3).trans (by rw [World.cell?_alloc_new]; rfl)
          have hM3 : Moves (fun k => k = g) w ((w3.setCell ⟨g, 0, none⟩ (.int .i64 y.lo)).setCell ⟨g, 1, none⟩ (.int .i64 y.hi)) := by
            refine Moves.setCell ?_ _ _ (.inl rfl)
            refine Moves.setCell ?_ _ _ (.inl rfl)
            exact Moves.of_below hb03
          have hB4 := (hB3.setCell 0 (.int .i64 y.lo)).setCell 1 (.int .i64 y.hi)
          have HM3 := Lib.hid hM3
          have HB4 := Lib.hid hB4
          clear hb3 hb03 hB3 hbk3 hM3 hB4 q2 q3
          go_wp2_with fail
          go_roundw
          case rel => exact .inr ⟨rfl, rfl, HB4.out, HM3.out⟩
          case measure => simp [intOf]
        · have hcl : ∀ ty c, (Builtin.clear_ #[25] ty #[.slice (some ⟨g, 2, none⟩) 1 c]).run Try.prog wr = .ok (.tuple #[]) (wr.setCells g 2 (zrs 1)) := fun ty c =>
            run_clear_rg wr _ _ ty Try.underlying25 Try.zeroRg g 2 1 c (by decide) (fun j hj => hB.some (by omega)) (fun j _ => hB.frozen _)
          have hR := (hB.setCells 2 (zrs 1) (by rw [len_zrs]; omega)).row (L := [y]) (by simp) (by rfl)
          have HM := Lib.hid (hM.setCells g 2 (zrs 1) (.inl rfl))
          have HR := Lib.hid hR
          clear hB hM hR
          go_wp2_with fail
          go_ret
          unfold Left
          rw [E2.out]
          exact ⟨rfl, HR.out, HM.out⟩
    · have e1 : idxI (idxF empR [x, y]) 2 = 0 := by simp [idxF, hx, idxI]
      have e2 : left2 x y = [] := by simp [left2, hx, hy]
      rw [show [x, y].length = 2 from rfl, e1] at hidx
      rw [hy] at hput
      unfold Rg.val at hput
      have E2 := Lib.hid e2
      have Hput := Lib.hid hput
      clear e1 e2 hx hy hrow hbk h hput
      go_enter Try.func41, Try.ntmps41
      go_wp2_with fail
      refine hidx.mono ?_
      rintro e w2 ⟨rfl, hb2⟩
      have HB2 := Lib.hid hb2
      clear hidx hb2
      go_wp2_with fail
      go_loopw [5, 6] (fun i j wr => i = .int .i64 0 ∧ (j = .int .i64 1 ∨ j = .int .i64 2) ∧ Below w.heap.size w wr) (fun _ j _ => 2 - (intOf j).toNat)
      case atStart => exact ⟨rfl, .inl rfl, HB2.out⟩
      case round =>
        clear HB2
        obtain ⟨rfl, rfl | rfl, hb⟩ := hrel
        · have hB := Hbk.out _ hb
          have q2 : wr.cell? ⟨g, 2, none⟩ = some (.int .i64 y.lo) := hB.cell 2
          have q3 : wr.cell? ⟨g, 3, none⟩ = some (.int .i64 y.hi) := hB.cell 3
          have hbA : Below w.heap.size w (wr.alloc (.cells y.cells.toArray 27)) := hb.alloc hb.size _
          have HbA := Lib.hid hbA
          clear hB hb hbA
          go_wp2_with fail
          refine (Hput.out _).mono ?_
          rintro e w3 ⟨rfl, hb3⟩
          have HB3 := Lib.hid (HbA.out.trans (hb3.mono HbA.out.size))
          clear hb3 q2 q3
          go_wp2_with fail
          go_roundw
          case rel => exact ⟨rfl, .inr rfl, HB3.out⟩
          case measure => simp [intOf]
        · have hB := Hbk.out _ hb
          have hcl : ∀ ty c, (Builtin.clear_ #[25] ty #[.slice (some ⟨g, 0, none⟩) 2 c]).run Try.prog wr = .ok (.tuple #[]) (wr.setCells g 0 (zrs 2)) := fun ty c =>
            run_clear_rg wr _ _ ty Try.underlying25 Try.zeroRg g 0 2 c (by decide) (fun j hj => hB.some (by omega)) (fun j _ => hB.frozen _)
          have hR := (hB.setCells 0 (zrs 2) (by rw [len_zrs]; omega)).row (L := []) (by simp) (by rfl)
          have HM := Lib.hid ((Moves.of_below (F := fun k => k = g) hb).setCells g 0 (zrs 2) (.inl rfl))
          have HR := Lib.hid hR
          clear hB hb hR
          go_wp2_with fail
          go_ret
          unfold Left
          rw [E2.out]
          exact ⟨rfl, HR.out, HM.out⟩
end
end Go.Proofs.Ytajbodfdohhhoaa
