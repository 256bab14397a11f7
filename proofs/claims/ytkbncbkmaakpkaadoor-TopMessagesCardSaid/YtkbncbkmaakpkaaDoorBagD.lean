/- The bag's closures, and Take. -/
import Derived.Test.YtkbncbkmaakpkaaDoorBagC
namespace Go.Proofs.YtkbncbkmaakpkaaDoor
open Go.RowKit
def wishAt (z : Int) (i : Nat) (_ : Ms) : Bool := ((i : Int) == z)
def wishOf (z : Int) (_ : Nat) (m : Ms) : Bool := (m.dst == z) || (m.src == z)
theorem keepL_at : ∀ (l : List Ms) (i n : Nat), keepL (wishAt ((i + n : Nat) : Int)) i l = l.eraseIdx n
  | [], i, n => by simp [keepL]
  | x :: r, i, 0 => by
    have hk : ∀ (l : List Ms) (j : Nat), i < j → keepL (wishAt ((i + 0 : Nat) : Int)) j l = l := by
      intro l
      induction l with
      | nil => intro j _; rfl
      | cons y t ih =>
        intro j hj
        have : wishAt ((i + 0 : Nat) : Int) j y = false := by simp [wishAt]; omega
        rw [keepL, this]
        simp only [Bool.false_eq_true, if_false]
        rw [ih (j + 1) (by omega)]
    have h0 : wishAt ((i + 0 : Nat) : Int) i x = true := by simp [wishAt]
    rw [keepL, h0]
    simp only [if_true, List.eraseIdx_cons_zero]
    exact hk r (i + 1) (by omega)
  | x :: r, i, n + 1 => by
    have h0 : wishAt ((i + (n + 1) : Nat) : Int) i x = false := by simp [wishAt]; omega
    rw [keepL, h0]
    simp only [Bool.false_eq_true, if_false, List.eraseIdx_cons_succ]
    have := keepL_at r (i + 1) n
    rw [show i + 1 + n = i + (n + 1) by omega] at this
    rw [this]
theorem keepL_erase (l : List Ms) (n : Nat) : keepL (wishAt (n : Int)) 0 l = l.eraseIdx n := by
  have := keepL_at l 0 n
  rwa [Nat.zero_add] at this
set_option maxRecDepth 100000 in
theorem take1_any (W : World) (kb : Nat) (z : Int) (i : Nat) (m : Ms) (hk : W.cell? ⟨kb, 0, none⟩ = some (.int .i64 z)) :
    Calls Tryd.prog 58 #[.int .i64 (i : Int), m.val, .pointer (some ⟨kb, 0, none⟩)] W fun e w' => e = .returned (.bool (wishAt z i m)) ∧ Below W.heap.size W w' := by
  have hkl := World.block_lt_of_cell? W _ hk
  have c : (W.alloc (.cells m.cells.toArray 51)).cell? ⟨kb, 0, none⟩ = some (.int .i64 z) := (World.cell?_alloc_lt _ _ _ hkl).trans hk
  go_enter Tryd.func58, Tryd.ntmps58
  unfold Ms.val
  go_wp2_with fail
  go_ret
  exact ⟨rfl, (Below.refl _ _).alloc (Nat.le_refl _) _⟩
theorem atM_none {l : List Ms} {i : Int} (h : atB l i = false) : atM l i = Ms.zero := by
  unfold atM
  split
  · rename_i h0
    have : ¬ i < (l.length : Int) := fun h1 => by rw [atB, decide_eq_true h0, decide_eq_true h1] at h; simp at h
    rw [List.getD_eq_getElem?_getD, List.getElem?_eq_none (by omega)]; rfl
  · rfl
/-- A message told over another's cells. -/
theorem Boxed.told8 {w : World} {u : Nat} {m0 : Ms} (h : Boxed w u m0) (m : Ms) :
    Boxed ((((((((w.setCell ⟨u, 0, none⟩ (.int .i64 m.kind)).setCell ⟨u, 1, none⟩ (.int .i64 m.src)).setCell ⟨u, 2, none⟩ (.int .i64 m.dst)).setCell ⟨u, 3, none⟩ (.int .i64 m.epoch)).setCell ⟨u, 4, none⟩ (.int .i64 m.seq)).setCell ⟨u, 5, none⟩ (.int .i64 m.off)).setCell ⟨u, 6, none⟩ (.int .i64 m.len)).setCell ⟨u, 7, none⟩ (.string m.data)) u m := by
  obtain ⟨z0, z1, z2, z3, z4, z5, z6, z7⟩ := h.all
  refine ⟨?_, fun j x hj => ?_⟩
  · have h1 := h.1
    refine Nat.lt_of_lt_of_le h1 (Moves.size (F := fun k => k = u) ?_)
    iterate 8 refine Moves.setCell ?_ _ _ (.inl rfl)
    exact Moves.refl _ _
  · match j, hj with
    | 0, hj => cases hj; go_simp
    | 1, hj => cases hj; go_simp
    | 2, hj => cases hj; go_simp
    | 3, hj => cases hj; go_simp
    | 4, hj => cases hj; go_simp
    | 5, hj => cases hj; go_simp
    | 6, hj => cases hj; go_simp
    | 7, hj => cases hj; go_simp
    | j + 8, hj => simp [Ms.cells] at hj
/-- Behind a turn, a block of the call's own is told: the turn is what it was. -/
theorem Turned.aside {w X w4 w8 : World} {b r : Nat} {v : Value} {l l' : List Ms} (h : Has w b v l) (hb : Below w.heap.size w X) (hT : Turned X b v l' w4) (hm : Moves (fun k => k = r) w4 w8) (h1 : w.heap.size ≤ r) (h2 : r < X.heap.size) : Turned w b v l' w8 := by
  obtain ⟨v', hh, m, hf, ho⟩ := hT
  have hbl := h.lt b (.inl rfl)
  have hr : ¬ bfp b v' r := fun hk => by
    rcases hf r hk with h3 | h3
    · have := h.lt r h3; omega
    · omega
  refine ⟨v', hh.moves hm fun k hk e => hr (e ▸ hk), ((Moves.of_below hb).trans m fun k hk => .inl hk).trans hm fun k hk => .inr (by omega), fun k hk => ?_, fun o ho0 => ?_⟩
  · rcases hf k hk with h3 | h3
    · exact .inl h3
    · exact .inr (Nat.le_trans hb.size h3)
  · have e1 : w8.heap[b]? = w4.heap[b]? := hm.block b (hh.lt b (.inl rfl)) (by omega)
    exact (World.cell?_of_block (a := ⟨b, o, none⟩) e1).trans ((ho o ho0).trans (World.cell?_of_block (a := ⟨b, o, none⟩) (hb.block b hbl)))
section
variable {w : World} {b : Nat} {v : Value} {l : List Ms}
set_option maxRecDepth 100000 in
set_option maxHeartbeats 2000000 in
theorem btake_any (hbag : IsBag w b v l) (hl : l.length ≤ 64) (i : Int) :
    Calls Tryd.prog 19 #[.pointer (some ⟨b, 0, none⟩), .int .i64 i] w fun e w' => e = .returned (.tuple #[(atM l i).val, .int .i64 (if atB l i then 0 else 3)]) ∧ Turned w b v (if atB l i then l.eraseIdx i.toNat else l) w' := by
  have hat : ∀ w1, Below w.heap.size w w1 → _ := fun w1 hb => at_any (hbag.has.below hb) i
  generalize hM : atM l i = M at hat ⊢
  generalize hB : atB l i = B at hat ⊢
  unfold Ms.val at hat ⊢
  have Hat := Lib.hid hat
  have HM := Lib.hid hM
  have HB := Lib.hid hB
  clear hat hM hB
  go_enter Tryd.func19, Tryd.ntmps19
  go_wp2_with fail
  have hbA : Below w.heap.size w ((w.alloc (.cells #[.int .i64 i] 3)).alloc (.cells Ms.zero.cells.toArray 51)) := ((Below.refl _ _).alloc (Nat.le_refl _) _).alloc (by simp) _
  have hkA : ((w.alloc (.cells #[.int .i64 i] 3)).alloc (.cells Ms.zero.cells.toArray 51)).cell? ⟨w.heap.size, 0, none⟩ = some (.int .i64 i) := by rw [World.cell?_alloc_lt _ _ _ (by simp), World.cell?_alloc_new]; rfl
  have hkS : ((w.alloc (.cells #[.int .i64 i] 3)).alloc (.cells Ms.zero.cells.toArray 51)).heap.size = w.heap.size + 2 := by simp
  have hzA := Boxed.made (w.alloc (.cells #[.int .i64 i] 3)) Ms.zero 51
  have hzS : (w.alloc (.cells #[.int .i64 i] 3)).heap.size = w.heap.size + 1 := by simp
  rw [hzS] at hzA
  have hzF : ∀ o, ((w.alloc (.cells #[.int .i64 i] 3)).alloc (.cells Ms.zero.cells.toArray 51)).frozen? ⟨w.heap.size + 1, o, none⟩ = false := fun o => by rw [← hzS]; exact World.frozen?_alloc_new _ _ _ _
  have hunf : (.cells Ms.zero.cells.toArray 51 : Obj) = .cells #[.int .i64 0, .int .i64 0, .int .i64 0, .int .i64 0, .int .i64 0, .int .i64 0, .int .i64 0, .string ⟨#[]⟩] 51 := rfl
  rw [hunf] at hbA hkA hkS hzA hzF
  generalize ((w.alloc (.cells #[.int .i64 i] 3)).alloc (.cells #[.int .i64 0, .int .i64 0, .int .i64 0, .int .i64 0, .int .i64 0, .int .i64 0, .int .i64 0, .string ⟨#[]⟩] 51)) = W at hbA hkA hkS hzA hzF ⊢
  clear hunf hzS
  have hkD : W.drew.cell? ⟨w.heap.size, 0, none⟩ = some (.int .i64 i) := hkA
  have hkE : ∀ o, (W.drew.alloc o).cell? ⟨w.heap.size, 0, none⟩ = some (.int .i64 i) := fun o => (World.cell?_alloc_lt _ _ _ (by have := World.block_lt_of_cell? W _ hkA; simpa using this)).trans hkA
  go_region_law (first
    | (go_simp
       go_at_call 56
       refine (Hat.out _ (by first | exact hbA.drew | exact hbA.drew.alloc (by have := hbA.size; simpa using this) _)).mono ?_
       rintro e w2 ⟨rfl, hb2⟩
       first
         | (have hbx := (Boxed.made W.drew Ms.zero 51).below hb2
            have hfz : ∀ o, w2.frozen? ⟨w.heap.size + 2, o, none⟩ = false := fun o => by
              rw [← hkS]
              exact (World.frozen?_of_block (a := ⟨W.heap.size, o, none⟩) (hb2.block W.heap.size (by simp))).trans (World.frozen?_alloc_new W.drew _ _ _)
            rw [show W.drew.heap.size = w.heap.size + 2 from hkS] at hbx
            obtain ⟨z0, z1, z2, z3, z4, z5, z6, z7⟩ := hbx.all
            have f0 := hfz 0
            have f1 := hfz 1
            have f2 := hfz 2
            have f3 := hfz 3
            have f4 := hfz 4
            have f5 := hfz 5
            have f6 := hfz 6
            have f7 := hfz 7)
         | skip))
  all_goals first
    | (
        have t1 : Below w.heap.size w (w2.alloc (.cells M.cells.toArray 51)) := (hbA.drew.trans (hb2.mono hbA.drew.size)).alloc (Nat.le_trans hbA.drew.size hb2.size) _
        have t2 : Boxed (w2.alloc (.cells M.cells.toArray 51)) w2.heap.size M := Boxed.made _ _ _
        have l1 : w.heap.size + 2 ≤ w2.heap.size := by have := hb2.size; rw [← hkS]; exact this
        have t3 : (w2.alloc (.cells M.cells.toArray 51)).cell? ⟨w.heap.size, 0, none⟩ = some (.int .i64 i) := (World.cell?_alloc_lt _ _ _ (by show w.heap.size < w2.heap.size; omega)).trans ((World.cell?_of_block (a := ⟨w.heap.size, 0, none⟩) (hb2.block w.heap.size (by show w.heap.size < W.heap.size; omega))).trans hkD)
        have t4 : Boxed (w2.alloc (.cells M.cells.toArray 51)) (w.heap.size + 1) Ms.zero := ((hzA.keep rfl (Nat.le_refl _) : Boxed W.drew (w.heap.size + 1) Ms.zero).below hb2).below ((Below.refl _ _).alloc (Nat.le_refl _) _)
        have t5 : ∀ o, (w2.alloc (.cells M.cells.toArray 51)).frozen? ⟨w.heap.size + 1, o, none⟩ = false := fun o => by
          refine (World.frozen?_of_block (a := ⟨w.heap.size + 1, o, none⟩) (Below.heap_alloc _ _ _ (by show w.heap.size + 1 < w2.heap.size; omega))).trans ?_
          exact (World.frozen?_of_block (a := ⟨w.heap.size + 1, o, none⟩) (hb2.block (w.heap.size + 1) (by show w.heap.size + 1 < W.heap.size; omega))).trans (hzF o)
        have hu : w.heap.size + 2 ≤ w2.heap.size := l1
        have hunf : (.cells M.cells.toArray 51 : Obj) = .cells #[.int .i64 M.kind, .int .i64 M.src, .int .i64 M.dst, .int .i64 M.epoch, .int .i64 M.seq, .int .i64 M.off, .int .i64 M.len, .string M.data] 51 := rfl
        rw [hunf] at t1 t2 t3 t4 t5
        generalize w2.alloc (.cells #[.int .i64 M.kind, .int .i64 M.src, .int .i64 M.dst, .int .i64 M.epoch, .int .i64 M.seq, .int .i64 M.off, .int .i64 M.len, .string M.data] 51) = X at t1 t2 t3 t4 t5 ⊢
        generalize w2.heap.size = u at t2 hu ⊢
        clear hunf l1
        have HX1 := Lib.hid t1
        have HX2 := Lib.hid t2
        have HX4 := Lib.hid t4
        have HX5 := Lib.hid t5
        have HX3 := Lib.hid t3
        have hrz : w.heap.size + 1 < X.heap.size := t4.1
        clear t1 t2 t3 t4 t5 hb2 hbA hkA hkD hkE hzA hzF hkS Hat
        cases B
        · have hz := atM_none HB.out
          rw [HM.out] at hz
          subst hz
          obtain ⟨y0, y1, y2, y3, y4, y5, y6, y7⟩ := HX4.out.all
          have g0 := HX5.out 0
          have g1 := HX5.out 1
          have g2 := HX5.out 2
          have g3 := HX5.out 3
          have g4 := HX5.out 4
          have g5 := HX5.out 5
          have g6 := HX5.out 6
          have g7 := HX5.out 7
          go_wp2_with fail
          refine bodyPost_ret (v := .tuple #[.agg #[.int .i64 0, .int .i64 0, .int .i64 0, .int .i64 0, .int .i64 0, .int .i64 0, .int .i64 0, .string ⟨#[]⟩], .int .i64 3]) (by simp [results, Tryd.results19, go_sem, y0, y1, y2, y3, y4, y5, y6, y7]) rfl ?_
          refine ⟨rfl, ?_⟩
          refine Turned.aside (r := w.heap.size + 1) hbag.has HX1.out (Turned.refl (hbag.has.below HX1.out)) ?_ (Nat.le_succ _) hrz
          iterate 8 refine Moves.setCell ?_ _ _ (.inl rfl)
          exact Moves.refl _ _
        · have hd := drop_take (hbag.has.below HX1.out) (by omega) w.heap.size i (wishAt i) HX3.out (fun W k m hk _ => take1_any W w.heap.size i k m hk)
          have he : keepL (wishAt i) 0 l = l.eraseIdx i.toNat := by
            have h0 : 0 ≤ i := by
              have := HB.out
              unfold atB at this
              simp at this
              exact this.1
            obtain ⟨n, rfl⟩ := Int.eq_ofNat_of_zero_le h0
            exact keepL_erase l n
          rw [he] at hd
          clear he
          go_wp2_with fail
          refine hd.mono ?_
          rintro e w4 ⟨rfl, hT⟩
          have hk4 : ∀ q, w.heap.size ≤ q → q < X.heap.size → w4.heap[q]? = X.heap[q]? := fun q h1 h2 => by
            obtain ⟨_, _, m, _, _⟩ := hT
            exact m.block q h2 fun hk => by have := hbag.has.lt q hk; omega
          have hs4 : X.heap.size ≤ w4.heap.size := by obtain ⟨_, _, m, _, _⟩ := hT; exact m.size
          have hbu := HX2.out.keep (hk4 u (by omega) HX2.out.1) hs4
          have hbz := HX4.out.keep (hk4 (w.heap.size + 1) (by omega) hrz) hs4
          have hfz : ∀ o, w4.frozen? ⟨w.heap.size + 1, o, none⟩ = false := fun o => (World.frozen?_of_block (a := ⟨w.heap.size + 1, o, none⟩) (hk4 (w.heap.size + 1) (by omega) hrz)).trans (HX5.out o)
          obtain ⟨x0, x1, x2, x3, x4, x5, x6, x7⟩ := hbu.all
          obtain ⟨y0, y1, y2, y3, y4, y5, y6, y7⟩ := hbz.all
          have g0 := hfz 0
          have g1 := hfz 1
          have g2 := hfz 2
          have g3 := hfz 3
          have g4 := hfz 4
          have g5 := hfz 5
          have g6 := hfz 6
          have g7 := hfz 7
          have HT := Lib.hid hT
          clear hd hT hk4 hs4 hbu hbz hfz
          go_wp2_with fail
          refine bodyPost_ret (v := .tuple #[.agg #[.int .i64 M.kind, .int .i64 M.src, .int .i64 M.dst, .int .i64 M.epoch, .int .i64 M.seq, .int .i64 M.off, .int .i64 M.len, .string M.data], .int .i64 0]) (by simp [results, Tryd.results19, go_sem, y0, y1, y2, y3, y4, y5, y6, y7]) rfl ?_
          refine ⟨rfl, ?_⟩
          refine Turned.aside (r := w.heap.size + 1) hbag.has HX1.out HT.out ?_ (Nat.le_succ _) hrz
          iterate 8 refine Moves.setCell ?_ _ _ (.inl rfl)
          exact Moves.refl _ _)
    | (
        have hw2 : Below w.heap.size w w2 := (hbA.alloc (by have := hbA.size; exact this) _).drew.trans (hb2.mono (by have := hbA.size; simp; omega))
        have t2 := hbx.told8 M
        have hmX : Moves (fun k => k = w.heap.size + 2) w2 ((((((((w2.setCell ⟨w.heap.size + 2, 0, none⟩ (.int .i64 M.kind)).setCell ⟨w.heap.size + 2, 1, none⟩ (.int .i64 M.src)).setCell ⟨w.heap.size + 2, 2, none⟩ (.int .i64 M.dst)).setCell ⟨w.heap.size + 2, 3, none⟩ (.int .i64 M.epoch)).setCell ⟨w.heap.size + 2, 4, none⟩ (.int .i64 M.seq)).setCell ⟨w.heap.size + 2, 5, none⟩ (.int .i64 M.off)).setCell ⟨w.heap.size + 2, 6, none⟩ (.int .i64 M.len)).setCell ⟨w.heap.size + 2, 7, none⟩ (.string M.data)) := by
          iterate 8 refine Moves.setCell ?_ _ _ (.inl rfl)
          exact Moves.refl _ _
        have l1 : w.heap.size + 2 < w2.heap.size := hbx.1
        have t1 : Below w.heap.size w ((((((((w2.setCell ⟨w.heap.size + 2, 0, none⟩ (.int .i64 M.kind)).setCell ⟨w.heap.size + 2, 1, none⟩ (.int .i64 M.src)).setCell ⟨w.heap.size + 2, 2, none⟩ (.int .i64 M.dst)).setCell ⟨w.heap.size + 2, 3, none⟩ (.int .i64 M.epoch)).setCell ⟨w.heap.size + 2, 4, none⟩ (.int .i64 M.seq)).setCell ⟨w.heap.size + 2, 5, none⟩ (.int .i64 M.off)).setCell ⟨w.heap.size + 2, 6, none⟩ (.int .i64 M.len)).setCell ⟨w.heap.size + 2, 7, none⟩ (.string M.data)) := hw2.trans (hmX.below (by omega) fun k hk => by omega)
        have hWz : Below W.heap.size W w2 := ((Below.refl _ _).alloc (Nat.le_refl _) _).drew.trans (hb2.mono (by simp))
        have t3 : (((((((((w2.setCell ⟨w.heap.size + 2, 0, none⟩ (.int .i64 M.kind)).setCell ⟨w.heap.size + 2, 1, none⟩ (.int .i64 M.src)).setCell ⟨w.heap.size + 2, 2, none⟩ (.int .i64 M.dst)).setCell ⟨w.heap.size + 2, 3, none⟩ (.int .i64 M.epoch)).setCell ⟨w.heap.size + 2, 4, none⟩ (.int .i64 M.seq)).setCell ⟨w.heap.size + 2, 5, none⟩ (.int .i64 M.off)).setCell ⟨w.heap.size + 2, 6, none⟩ (.int .i64 M.len)).setCell ⟨w.heap.size + 2, 7, none⟩ (.string M.data))).cell? ⟨w.heap.size, 0, none⟩ = some (.int .i64 i) := (World.cell?_of_block (a := ⟨w.heap.size, 0, none⟩) (hmX.block w.heap.size (by omega) (by omega))).trans ((World.cell?_of_block (a := ⟨w.heap.size, 0, none⟩) (hWz.block w.heap.size (by omega))).trans hkA)
        have t4 : Boxed (((((((((w2.setCell ⟨w.heap.size + 2, 0, none⟩ (.int .i64 M.kind)).setCell ⟨w.heap.size + 2, 1, none⟩ (.int .i64 M.src)).setCell ⟨w.heap.size + 2, 2, none⟩ (.int .i64 M.dst)).setCell ⟨w.heap.size + 2, 3, none⟩ (.int .i64 M.epoch)).setCell ⟨w.heap.size + 2, 4, none⟩ (.int .i64 M.seq)).setCell ⟨w.heap.size + 2, 5, none⟩ (.int .i64 M.off)).setCell ⟨w.heap.size + 2, 6, none⟩ (.int .i64 M.len)).setCell ⟨w.heap.size + 2, 7, none⟩ (.string M.data))) (w.heap.size + 1) Ms.zero := (hzA.below hWz).keep (hmX.block (w.heap.size + 1) (by omega) (by omega)) hmX.size
        have t5 : ∀ o, (((((((((w2.setCell ⟨w.heap.size + 2, 0, none⟩ (.int .i64 M.kind)).setCell ⟨w.heap.size + 2, 1, none⟩ (.int .i64 M.src)).setCell ⟨w.heap.size + 2, 2, none⟩ (.int .i64 M.dst)).setCell ⟨w.heap.size + 2, 3, none⟩ (.int .i64 M.epoch)).setCell ⟨w.heap.size + 2, 4, none⟩ (.int .i64 M.seq)).setCell ⟨w.heap.size + 2, 5, none⟩ (.int .i64 M.off)).setCell ⟨w.heap.size + 2, 6, none⟩ (.int .i64 M.len)).setCell ⟨w.heap.size + 2, 7, none⟩ (.string M.data))).frozen? ⟨w.heap.size + 1, o, none⟩ = false := fun o => (World.frozen?_of_block (a := ⟨w.heap.size + 1, o, none⟩) (hmX.block (w.heap.size + 1) (by omega) (by omega))).trans ((World.frozen?_of_block (a := ⟨w.heap.size + 1, o, none⟩) (hWz.block (w.heap.size + 1) (by omega))).trans (hzF o))
        clear hmX hWz z0 z1 z2 z3 z4 z5 z6 z7 f0 f1 f2 f3 f4 f5 f6 f7 hbx hw2
        generalize ((((((((w2.setCell ⟨w.heap.size + 2, 0, none⟩ (.int .i64 M.kind)).setCell ⟨w.heap.size + 2, 1, none⟩ (.int .i64 M.src)).setCell ⟨w.heap.size + 2, 2, none⟩ (.int .i64 M.dst)).setCell ⟨w.heap.size + 2, 3, none⟩ (.int .i64 M.epoch)).setCell ⟨w.heap.size + 2, 4, none⟩ (.int .i64 M.seq)).setCell ⟨w.heap.size + 2, 5, none⟩ (.int .i64 M.off)).setCell ⟨w.heap.size + 2, 6, none⟩ (.int .i64 M.len)).setCell ⟨w.heap.size + 2, 7, none⟩ (.string M.data)) = X at t1 t2 t3 t4 t5 ⊢
        obtain ⟨u, hu0⟩ : ∃ u, u = w.heap.size + 2 := ⟨_, rfl⟩
        rw [← hu0] at t2 ⊢
        have hu : w.heap.size + 2 ≤ u := by omega
        clear hu0 l1
        have HX1 := Lib.hid t1
        have HX2 := Lib.hid t2
        have HX4 := Lib.hid t4
        have HX5 := Lib.hid t5
        have HX3 := Lib.hid t3
        have hrz : w.heap.size + 1 < X.heap.size := t4.1
        clear t1 t2 t3 t4 t5 hb2 hbA hkA hkD hkE hzA hzF hkS Hat
        cases B
        · have hz := atM_none HB.out
          rw [HM.out] at hz
          subst hz
          obtain ⟨y0, y1, y2, y3, y4, y5, y6, y7⟩ := HX4.out.all
          have g0 := HX5.out 0
          have g1 := HX5.out 1
          have g2 := HX5.out 2
          have g3 := HX5.out 3
          have g4 := HX5.out 4
          have g5 := HX5.out 5
          have g6 := HX5.out 6
          have g7 := HX5.out 7
          go_wp2_with fail
          refine bodyPost_ret (v := .tuple #[.agg #[.int .i64 0, .int .i64 0, .int .i64 0, .int .i64 0, .int .i64 0, .int .i64 0, .int .i64 0, .string ⟨#[]⟩], .int .i64 3]) (by simp [results, Tryd.results19, go_sem, y0, y1, y2, y3, y4, y5, y6, y7]) rfl ?_
          refine ⟨rfl, ?_⟩
          refine Turned.aside (r := w.heap.size + 1) hbag.has HX1.out (Turned.refl (hbag.has.below HX1.out)) ?_ (Nat.le_succ _) hrz
          iterate 8 refine Moves.setCell ?_ _ _ (.inl rfl)
          exact Moves.refl _ _
        · have hd := drop_take (hbag.has.below HX1.out) (by omega) w.heap.size i (wishAt i) HX3.out (fun W k m hk _ => take1_any W w.heap.size i k m hk)
          have he : keepL (wishAt i) 0 l = l.eraseIdx i.toNat := by
            have h0 : 0 ≤ i := by
              have := HB.out
              unfold atB at this
              simp at this
              exact this.1
            obtain ⟨n, rfl⟩ := Int.eq_ofNat_of_zero_le h0
            exact keepL_erase l n
          rw [he] at hd
          clear he
          go_wp2_with fail
          refine hd.mono ?_
          rintro e w4 ⟨rfl, hT⟩
          have hk4 : ∀ q, w.heap.size ≤ q → q < X.heap.size → w4.heap[q]? = X.heap[q]? := fun q h1 h2 => by
            obtain ⟨_, _, m, _, _⟩ := hT
            exact m.block q h2 fun hk => by have := hbag.has.lt q hk; omega
          have hs4 : X.heap.size ≤ w4.heap.size := by obtain ⟨_, _, m, _, _⟩ := hT; exact m.size
          have hbu := HX2.out.keep (hk4 u (by omega) HX2.out.1) hs4
          have hbz := HX4.out.keep (hk4 (w.heap.size + 1) (by omega) hrz) hs4
          have hfz : ∀ o, w4.frozen? ⟨w.heap.size + 1, o, none⟩ = false := fun o => (World.frozen?_of_block (a := ⟨w.heap.size + 1, o, none⟩) (hk4 (w.heap.size + 1) (by omega) hrz)).trans (HX5.out o)
          obtain ⟨x0, x1, x2, x3, x4, x5, x6, x7⟩ := hbu.all
          obtain ⟨y0, y1, y2, y3, y4, y5, y6, y7⟩ := hbz.all
          have g0 := hfz 0
          have g1 := hfz 1
          have g2 := hfz 2
          have g3 := hfz 3
          have g4 := hfz 4
          have g5 := hfz 5
          have g6 := hfz 6
          have g7 := hfz 7
          have HT := Lib.hid hT
          clear hd hT hk4 hs4 hbu hbz hfz
          go_wp2_with fail
          refine bodyPost_ret (v := .tuple #[.agg #[.int .i64 M.kind, .int .i64 M.src, .int .i64 M.dst, .int .i64 M.epoch, .int .i64 M.seq, .int .i64 M.off, .int .i64 M.len, .string M.data], .int .i64 0]) (by simp [results, Tryd.results19, go_sem, y0, y1, y2, y3, y4, y5, y6, y7]) rfl ?_
          refine ⟨rfl, ?_⟩
          refine Turned.aside (r := w.heap.size + 1) hbag.has HX1.out HT.out ?_ (Nat.le_succ _) hrz
          iterate 8 refine Moves.setCell ?_ _ _ (.inl rfl)
          exact Moves.refl _ _)
end
end Go.Proofs.YtkbncbkmaakpkaaDoor
