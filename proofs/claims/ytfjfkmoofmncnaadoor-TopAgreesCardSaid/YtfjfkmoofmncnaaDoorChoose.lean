/- Choose. -/
import Derived.Test.YtfjfkmoofmncnaaDoorMa
import Derived.StillTailTactics
namespace Go.Proofs.YtfjfkmoofmncnaaDoor
open Go.RowKit
/-- The best vote of a slot. -/
def better (slot : Int) (b v : Vote) : Vote := if v.slot = slot ∧ b.bal < v.bal then v else b
def bestOf (slot : Int) (l : List Vote) (b : Vote) : Vote := l.foldl (better slot) b
theorem bestOf_app (slot : Int) (l m : List Vote) (b : Vote) : bestOf slot (l ++ m) b = bestOf slot m (bestOf slot l b) := by simp [bestOf]
/-- Rows of votes, in a row. -/
def Sets (w : World) (v : Value) (S : List (List Vote)) : Prop :=
  ∃ vals : List Value, vals.length = S.length ∧ w.ownsRow 0 90 1 v S.length vals ∧ ∀ (i : Nat) (l : List Vote), S[i]? = some l → ∃ x : Value, vals[i]? = some x ∧ w.ownsRow 0 100 3 x l.length (vrows l)
section
variable {w w' : World} {v : Value} {S : List (List Vote)}
theorem Sets.below (h : Sets w v S) (hb : Below w.heap.size w w') : Sets w' v S := by
  obtain ⟨vals, h0, h1, h2⟩ := h
  refine ⟨vals, h0, ownsRow_keep h1 fun k hk => hb.block k (h1.lt k hk).2, fun i l hl => ?_⟩
  obtain ⟨x, hx, ho⟩ := h2 i l hl
  exact ⟨x, hx, ownsRow_keep ho fun k hk => hb.block k (ho.lt k hk).2⟩
theorem Sets.lens (h : Sets w v S) : ∃ a cap, v = .slice a S.length cap := by
  obtain ⟨vals, h0, h1, h2⟩ := h
  exact row_lens h1
theorem Sets.at (h : Sets w v S) {i : Nat} {l : List Vote} (hl : S[i]? = some l) : ∃ g cap x, v = .slice (some ⟨g, 0, none⟩) S.length cap ∧ w.cell? ⟨g, i, none⟩ = some x ∧ w.ownsRow 0 100 3 x l.length (vrows l) := by
  obtain ⟨vals, h0, h1, h2⟩ := h
  obtain ⟨x, hx, ho⟩ := h2 i l hl
  have hi := (List.getElem?_eq_some_iff.1 hl).1
  rcases ownsRow_form h1 with ⟨h3, h4⟩ | ⟨g, cap, rfl, _⟩
  · have : S.length = 0 := h4.1
    omega
  · refine ⟨g, cap, x, rfl, ?_, ho⟩
    rw [World.ownsRow.cellAt h1 i (by omega)]
    exact hx
/-- In the midst of Choose: the best one so far, the answer's place. -/
structure CH (w W : World) (best : Vote) : Prop where
  b : Below w.heap.size w W
  bx : VBox W (w.heap.size + 1) best
  bf : ∀ o, W.frozen? ⟨w.heap.size + 1, o, none⟩ = false
  ax : VBox W w.heap.size Vote.zero
  af : ∀ o, W.frozen? ⟨w.heap.size, o, none⟩ = false
theorem CH.more {W W' : World} {best : Vote} (h : CH w W best) (hb : Below W.heap.size W W') : CH w W' best :=
  ⟨h.b.trans (hb.mono h.b.size), h.bx.keep (hb.block _ h.bx.lt), fun o => (World.frozen?_of_block (a := ⟨w.heap.size + 1, o, none⟩) (hb.block _ h.bx.lt)).trans (h.bf o), h.ax.keep (hb.block _ h.ax.lt), fun o => (World.frozen?_of_block (a := ⟨w.heap.size, o, none⟩) (hb.block _ h.ax.lt)).trans (h.af o)⟩
theorem VBox.put {W : World} {u : Nat} {x : Vote} (h : VBox W u x) (y : Vote) : VBox (((W.setCell ⟨u, 0, none⟩ (.int .i64 y.slot)).setCell ⟨u, 1, none⟩ (.int .i64 y.bal)).setCell ⟨u, 2, none⟩ (.string y.val)) u y := fun j z hj => by
  have n1 : ∀ i k : Nat, i ≠ k → (⟨u, i, none⟩ : Addr) ≠ ⟨u, k, none⟩ := fun i k h h' => by injection h' with h1 h2; exact h h2
  match j, hj with
  | 0, hj =>
    have : z = .int .i64 y.slot := by cases hj; rfl
    rw [this, World.cell?_setCell_other _ _ _ _ (n1 _ _ (by omega)), World.cell?_setCell_other _ _ _ _ (n1 _ _ (by omega))]
    exact World.cell?_setCell_same _ _ _ (h 0 _ rfl)
  | 1, hj =>
    have : z = .int .i64 y.bal := by cases hj; rfl
    rw [this, World.cell?_setCell_other _ _ _ _ (n1 _ _ (by omega))]
    refine World.cell?_setCell_same _ _ _ (u := .int .i64 x.bal) ?_
    rw [World.cell?_setCell_other _ _ _ _ (n1 _ _ (by omega))]; exact h 1 _ rfl
  | 2, hj =>
    have : z = .string y.val := by cases hj; rfl
    rw [this]
    refine World.cell?_setCell_same _ _ _ (u := .string x.val) ?_
    rw [World.cell?_setCell_other _ _ _ _ (n1 _ _ (by omega)), World.cell?_setCell_other _ _ _ _ (n1 _ _ (by omega))]; exact h 2 _ rfl
theorem CH.told {W : World} {best : Vote} (h : CH w W best) (y : Vote) : CH w (((W.setCell ⟨w.heap.size + 1, 0, none⟩ (.int .i64 y.slot)).setCell ⟨w.heap.size + 1, 1, none⟩ (.int .i64 y.bal)).setCell ⟨w.heap.size + 1, 2, none⟩ (.string y.val)) y := by
  have hk : ∀ q, q ≠ w.heap.size + 1 → (((W.setCell ⟨w.heap.size + 1, 0, none⟩ (.int .i64 y.slot)).setCell ⟨w.heap.size + 1, 1, none⟩ (.int .i64 y.bal)).setCell ⟨w.heap.size + 1, 2, none⟩ (.string y.val)).heap[q]? = W.heap[q]? := fun q hq => by
    rw [Below.heap_setCell _ _ _ _ hq, Below.heap_setCell _ _ _ _ hq, Below.heap_setCell _ _ _ _ hq]
  exact ⟨((h.b.setCell (by simp) _).setCell (by simp) _).setCell (by simp) _, h.bx.put y, fun o => by rw [World.frozen?_setCell, World.frozen?_setCell, World.frozen?_setCell]; exact h.bf o, h.ax.keep (hk _ (by omega)), fun o => by rw [World.frozen?_setCell, World.frozen?_setCell, World.frozen?_setCell]; exact h.af o⟩
set_option maxRecDepth 100000 in
set_option maxHeartbeats 8000000 in
theorem choose_any (h : Sets w v S) (slot : Int) (hl : S.length ≤ 1000) (hl2 : ∀ l ∈ S, l.length ≤ 10000) :
    Calls Tryd.prog 30 #[v, .int .i64 slot] w fun e w' => e = .returned (.tuple #[(bestOf slot S.flatten Vote.zero).val', .bool (decide (0 < (bestOf slot S.flatten Vote.zero).bal))]) ∧ Below w.heap.size w w' := by
  obtain ⟨a, cap, rfl⟩ := h.lens
  have HS := Lib.hid (fun W (hW : Below w.heap.size w W) => h.below hW)
  have HL2 := Lib.hid hl2
  have hch : CH w ((w.alloc (.cells #[.int .i64 0, .int .i64 0, .string ⟨#[]⟩] 100)).alloc (.cells #[.int .i64 0, .int .i64 0, .string ⟨#[]⟩] 100)) Vote.zero := by
    have hsz : (w.alloc (.cells #[.int .i64 0, .int .i64 0, .string ⟨#[]⟩] 100)).heap.size = w.heap.size + 1 := by simp
    have h1 : VBox (w.alloc (.cells #[.int .i64 0, .int .i64 0, .string ⟨#[]⟩] 100)) w.heap.size Vote.zero := VBox.made w Vote.zero _
    have h2 := VBox.made (w.alloc (.cells #[.int .i64 0, .int .i64 0, .string ⟨#[]⟩] 100)) Vote.zero 100
    have h3 := fun o => World.frozen?_alloc_new (w.alloc (.cells #[.int .i64 0, .int .i64 0, .string ⟨#[]⟩] 100)) #[.int .i64 0, .int .i64 0, .string ⟨#[]⟩] 100 o
    rw [hsz] at h2 h3
    refine ⟨((Below.refl _ _).alloc (Nat.le_refl _) _).alloc (by simp) _, h2, h3, h1.keep (Below.heap_alloc _ _ _ (by simp)), fun o => ?_⟩
    exact (World.frozen?_of_block (a := ⟨w.heap.size, o, none⟩) (Below.heap_alloc _ _ _ (by simp))).trans (World.frozen?_alloc_new _ _ _ _)
  have HC := Lib.hid hch
  clear h hl2 hch
  go_enter Tryd.func30, Tryd.ntmps30
  go_wp2_with fail
  generalize ((w.alloc (.cells #[.int .i64 0, .int .i64 0, .string ⟨#[]⟩] 100)).alloc (.cells #[.int .i64 0, .int .i64 0, .string ⟨#[]⟩] 100)) = W0 at HC
  go_loopw [8, 10, 13] (fun _ _ c wr => ∃ k : Nat, k ≤ S.length ∧ c = .int .i64 (k : Int) ∧ CH w wr (bestOf slot (S.take k).flatten Vote.zero)) (fun _ _ c _ => S.length - (intOf c).toNat)
  case atStart => exact ⟨0, Nat.zero_le _, rfl, HC.out⟩
  case round =>
    clear HC
    obtain ⟨k, hk, rfl, hc⟩ := hrel
    by_cases hlt : k < S.length
    · have e1 : decide ((k : Int) < (S.length : Int)) = true := by simpa using hlt
      obtain ⟨l, hls⟩ : ∃ l, S[k]? = some l := ⟨_, List.getElem?_eq_getElem hlt⟩
      obtain ⟨g, cap', x, hv, hcell0, hro⟩ := (HS.out w (Below.refl _ _)).at hls
      have hcell : wr.cell? ⟨g, k, none⟩ = some x := (World.cell?_of_block (a := ⟨g, k, none⟩) (hc.b.block g (World.block_lt_of_cell? w _ hcell0))).trans hcell0
      simp only [Value.slice.injEq, true_and] at hv
      obtain ⟨rfl, rfl⟩ := hv
      have hll := HL2.out l (List.mem_of_getElem? hls)
      obtain ⟨a2, cap2, rfl⟩ := row_lens hro
      have htk : (S.take (k + 1)).flatten = (S.take k).flatten ++ l := by rw [List.take_add_one, hls]; simp
      have hrw := fun W (hW : Below w.heap.size w W) => ownsRow_keep hro fun q hq => hW.block q (hro.lt q hq).2
      have HRW := Lib.hid hrw
      have HTK := Lib.hid htk
      have HC := Lib.hid hc
      generalize hP : (S.take k).flatten = P at HC HTK
      clear hls hc hro htk hP hrw hcell0
      go_wp2_with fail
      go_loopw [10, 19] (fun _ c wx => ∃ j : Nat, j ≤ l.length ∧ c = .int .i64 (j : Int) ∧ CH w wx (bestOf slot (P ++ l.take j) Vote.zero)) (fun _ c _ => l.length - (intOf c).toNat)
      case atStart => exact ⟨0, Nat.zero_le _, rfl, by simpa using HC.out⟩
      case round =>
        clear HC
        obtain ⟨j, hj, rfl, hc⟩ := hrel
        by_cases hlt2 : j < l.length
        · have e2 : decide ((j : Int) < (l.length : Int)) = true := by simpa using hlt2
          obtain ⟨y, hy⟩ : ∃ y, l[j]? = some y := ⟨_, List.getElem?_eq_getElem hlt2⟩
          obtain ⟨g2, cap3, hv2, hcc⟩ := rowcell (HRW.out wr hc.b) hy
          simp only [Value.slice.injEq, true_and] at hv2
          obtain ⟨rfl, rfl⟩ := hv2
          have q0 := hcc 0 _ rfl
          rw [Nat.add_zero] at q0
          have q1 := hcc 1 _ rfl
          have q2 := hcc 2 _ rfl
          have hsn : bestOf slot (P ++ l.take (j + 1)) Vote.zero = better slot (bestOf slot (P ++ l.take j) Vote.zero) y := by
            rw [List.take_add_one, hy, ← List.append_assoc, bestOf_app]; rfl
          generalize bestOf slot (P ++ l.take j) Vote.zero = best at hc hsn
          have hbA : Below wr.heap.size wr (wr.alloc (.cells #[.int .i64 y.slot, .int .i64 y.bal, .string y.val] 100)) := (Below.refl _ _).alloc (Nat.le_refl _) _
          have hcA := hc.more hbA
          have hvb : VBox (wr.alloc (.cells #[.int .i64 y.slot, .int .i64 y.bal, .string y.val] 100)) wr.heap.size y := VBox.made wr y _
          have x0 := hvb 0 _ rfl
          have x1 := hvb 1 _ rfl
          have x2 := hvb 2 _ rfl
          have b0 := hcA.bx 0 _ rfl
          have b1 := hcA.bx 1 _ rfl
          have b2 := hcA.bx 2 _ rfl
          have f0 := hcA.bf 0
          have f1 := hcA.bf 1
          have f2 := hcA.bf 2
          have hun : wr.heap.size ≠ w.heap.size + 1 := by have := hc.bx.lt; omega
          have HSN := Lib.hid hsn
          have HCA := Lib.hid hcA
          clear hy hcc hsn hbA hcA hvb hc
          by_cases hbt : y.slot = slot ∧ best.bal < y.bal
          · obtain ⟨hb1, hb2⟩ := hbt
            have e3 : (y.slot == slot) = true := by simpa using hb1
            have e4 : decide (best.bal < y.bal) = true := by simpa using hb2
            have HB := Lib.hid (show better slot best y = y from if_pos ⟨hb1, hb2⟩)
            have HCT := Lib.hid (HCA.out.told y)
            clear hb1 hb2
            go_wp2_with fail
            go_roundw
            case rel => exact ⟨j + 1, by omega, by go_num, by rw [HSN.out, HB.out]; exact HCT.out⟩
            case measure => simp [intOf]; omega
          · have HB := Lib.hid (show better slot best y = best from if_neg hbt)
            by_cases hb1 : y.slot = slot
            · have e3 : (y.slot == slot) = true := by simpa using hb1
              have e4 : decide (best.bal < y.bal) = false := by simp; omega
              clear hb1 hbt
              go_wp2_with fail
              go_roundw
              case rel => exact ⟨j + 1, by omega, by go_num, by rw [HSN.out, HB.out]; exact HCA.out⟩
              case measure => simp [intOf]; omega
            · have e3 : (y.slot == slot) = false := by simpa using hb1
              clear hb1 hbt
              go_wp2_with fail
              go_roundw
              case rel => exact ⟨j + 1, by omega, by go_num, by rw [HSN.out, HB.out]; exact HCA.out⟩
              case measure => simp [intOf]; omega
        · have e2 : decide ((j : Int) < (l.length : Int)) = false := by simpa using hlt2
          have et : l.take j = l := List.take_of_length_le (by omega)
          rw [et] at hc
          have HC := Lib.hid hc
          clear hc et
          go_wp2_with fail
          go_roundw
          case rel => exact ⟨k + 1, by omega, by go_num, by rw [HTK.out]; exact HC.out⟩
          case measure => simp [intOf]; omega
    · have e1 : decide ((k : Int) < (S.length : Int)) = false := by simpa using hlt
      have et : S.take k = S := List.take_of_length_le (by omega)
      rw [et] at hc
      generalize hbb : bestOf slot S.flatten Vote.zero = best at hc
      have HBB := Lib.hid hbb
      have b0 := hc.bx 0 _ rfl
      have b1 := hc.bx 1 _ rfl
      have b2 := hc.bx 2 _ rfl
      have a0 := hc.ax 0 _ rfl
      have a1 := hc.ax 1 _ rfl
      have a2 := hc.ax 2 _ rfl
      have f0 := hc.af 0
      have f1 := hc.af 1
      have f2 := hc.af 2
      have HC := Lib.hid hc
      clear hc hbb et
      go_wp2_with fail
      go_region
      all_goals
        go_wp2_with fail
        refine bodyPost_ret (v := .tuple #[.agg #[.int .i64 best.slot, .int .i64 best.bal, .string best.val], .bool (decide (0 < best.bal))]) (by simp [results, Tryd.results30, go_sem, a0, a1, a2]) rfl ?_
        rw [HBB.out]
        refine ⟨rfl, ?_⟩
        first
          | exact (((HC.out.b.setCell (by simp) _).setCell (by simp) _).setCell (by simp) _).drew
          | exact (((HC.out.b.drew.setCell (by simp) _).setCell (by simp) _).setCell (by simp) _)
end
end Go.Proofs.YtfjfkmoofmncnaaDoor
