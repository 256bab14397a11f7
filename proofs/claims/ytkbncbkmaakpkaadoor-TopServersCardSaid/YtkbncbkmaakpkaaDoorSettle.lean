/- What waits takes place: settle, with Sync's closure (all of each write) and with Crash's (a part of each). Printed by gen_settle.py. -/
import Derived.Test.YtkbncbkmaakpkaaDoorPlateA
import Derived.StillTailTactics
namespace Go.Proofs.YtkbncbkmaakpkaaDoor
open Go.RowKit
theorem Tryd.sizeWrite : (Tryd.prog.info? 274).map (·.size) = some 33 := by kernel_rfl
theorem Tryd.sizeSector : (Tryd.prog.info? 205).map (·.size) = some 32 := by kernel_rfl
theorem Tryd.sizeByte : (Tryd.prog.info? 5).map (·.size) = some 1 := by kernel_rfl
/-- The first k of an array that lies at a. -/
theorem run_sliceAt_head {P : Program} (w : World) (t n e size : Nat) (hu : P.underlying t = some (.array n e)) (hs : (P.info? e).map (·.size) = some size) (a : Addr) (k : Nat) (hk : k ≤ n) :
    (Instr.sliceAt t (.pointer (some a)) none (some (.int .i64 (k : Int))) none).run P w = .ok (.slice (some a) k n) w := by
  cases hq : P.info? e with
  | none => simp [hq] at hs
  | some i =>
    have h1 : (0 : Int) ≤ (k : Int) ∧ (k : Int) ≤ (n : Int) := by omega
    simp [Instr.sliceAt, run_underlying hu, Instr.sureAddr, Instr.sliceBounds, Instr.sliceBound, asIntOf, h1, hk, sizeOf, typeInfo, hq, Addr.add]
theorem toNat_sub {a b c : Nat} (h : b < c) (h' : c ≤ a) : a - c < a - b := by omega
/-- The row of what waits, while only the sectors turn. -/
theorem wait_range {w : World} {b g cap : Nat} {st st' : PS} (h : IsPlate w b (.slice (some ⟨g, 0, none⟩) st.wait.length cap) st') (hs : st'.wait = st.wait) (hok : st.ok) {k : Nat} {x : Nat × List UInt8} (hx : st.wait[k]? = some x) :
    w.rangeAt g (k * 33) (wcell x) ∧ g < w.heap.size := by
  rcases ownsRow_form h.own with ⟨h0, _⟩ | ⟨g', cap', h0, -, hg, _, _, hr', _⟩
  · cases h0
  · simp only [Value.slice.injEq, Option.some.injEq, Addr.mk.injEq] at h0
    obtain ⟨⟨rfl, -⟩, -⟩ := h0
    rw [hs] at hr'
    have := rangeAt_part hr' (k * 33) (wcell x) (fun j u hu => wcells_at _ k x (fun y hy => (hok.wt y hy).2) hx j u hu)
    exact ⟨by simpa using this, hg⟩
/-- One write takes place: the copy of its first bytes. -/
theorem settle_round {w : World} {b : Nat} {v : Value} {st : PS} {of : Nat → Nat} {k : Nat} {x : Nat × List UInt8} {c : Array Value} {t : TypeId}
    (h : IsPlate w b v { st with is := settle of 0 (st.wait.take k) st.is }) (hok : st.ok) (hx : st.wait[k]? = some x) (hof : of k ≤ 32) :
    IsPlate ((w.alloc (.cells c t)).drew.setCells b (1 + x.1 * 32) (bcells (x.2.take (of k)))) b v { st with is := settle of 0 (st.wait.take (k + 1)) st.is } := by
  have hwt := hok.wt x (List.mem_of_getElem? hx)
  have hkl := (List.getElem?_eq_some_iff.1 hx).1
  have e : st.wait.take (k + 1) = st.wait.take k ++ [x] := by
    rw [List.take_add_one, hx]; rfl
  rw [e, settle_snoc, show 0 + (st.wait.take k).length = k by simp; omega]
  have h1 : IsPlate (w.alloc (.cells c t)).drew b v { st with is := settle of 0 (st.wait.take k) st.is } := (h.alloc _).keeps fun _ _ => rfl
  exact h1.setSec x.1 (of k) x.2 hwt.1 hof hwt.2
theorem settled_all (of : Nat → Nat) (st : PS) {k : Nat} (h : ¬ k < st.wait.length) : settle of 0 (st.wait.take k) st.is = settle of 0 st.wait st.is := by rw [List.take_of_length_le (by omega)]
/-- The bytes that go over lie behind the write's place. -/
theorem src_cells {w : World} {t : TypeId} {x : Nat × List UInt8} {n : Nat} : ∀ j u, (bcells (x.2.take n))[j]? = some u → (w.alloc (.cells (wcell x).toArray t)).drew.cell? ((⟨w.heap.size, 1, none⟩ : Addr).add j) = some u := by
  intro j u hu
  rw [Addr.add_mid, World.cell?_drew, World.cell?_alloc_new]
  simp only [wcell, List.getElem?_toArray, bcells] at hu ⊢
  rw [show 1 + j = j + 1 by omega, List.getElem?_cons_succ]
  simp only [List.getElem?_map, List.getElem?_take] at hu ⊢
  split at hu
  · exact hu
  · simp at hu
theorem dst_there {w : World} {b : Nat} {v : Value} {st : PS} {i n : Nat} (h : IsPlate w b v st) (hi : i < st.size) (hn : n ≤ 32) (o : Obj) : (w.alloc o).drew.there b (1 + i * 32) n := by
  intro j hj
  have hl := h.ok.len
  have hs : st.is[i]? = some (st.is[i]'(by omega)) := List.getElem?_eq_getElem (by omega)
  have h2 := h.ok.sec _ (List.mem_of_getElem? hs)
  have h1 := h.alloc o
  have := (h1.sec i _ hs).isSome j (by rw [length_bcells, h2]; omega)
  exact ⟨by rw [World.cell?_drew]; exact this, by rw [World.frozen?_drew]; exact h1.fro _⟩

set_option maxRecDepth 100000 in
set_option maxHeartbeats 1000000 in
theorem settle_all {b : Nat} {v : Value} {st : PS} {w : World} (h : IsPlate w b v st) (hn : st.wait.length < 1000000000) :
    Calls Tryd.prog 87 #[.pointer (some ⟨b, 0, none⟩), .func (.func 180) #[] #[]] w fun e w' => e = .returned (.tuple #[]) ∧
      IsPlate w' b (.slice none 0 0) { st with is := settle (fun _ : Nat => 32) 0 st.wait st.is, wait := [] } ∧ Moves (pfp b v) w w' := by
  have hcut : ∀ j : Nat, (fun _ : Nat => 32) j ≤ 32 := fun _ => Nat.le_refl 32
  rcases ownsRow_form h.own with ⟨rfl, h0, hx⟩ | ⟨g, cap, rfl, -, hg, hcap, hmx, hr, hf⟩
  · have h1 := h.wv
    have h2 := h.fro 4097
    have hwn : st.wait = [] := List.eq_nil_of_length_eq_zero h0
    have hfin : IsPlate (w.setCell ⟨b, 4097, none⟩ (.slice none 0 0)) b (.slice none 0 0) { st with is := settle (fun _ : Nat => 32) 0 st.wait st.is, wait := [] } := by rw [hwn]; exact h.setNil
    have hmv : Moves (pfp b (.slice none 0 0)) w (w.setCell ⟨b, 4097, none⟩ (.slice none 0 0)) := (Moves.refl _ _).setCell _ _ (.inl (.inl rfl))
    clear hwn h0 hx hn
    go_enter Tryd.func87, Tryd.ntmps87
    go_wp2_with fail
    go_loopw [11] (fun i wr => i = .int .i64 0 ∧ wr = w) (fun _ _ => 0)
    case atStart => exact ⟨rfl, rfl⟩
    case round =>
      obtain ⟨rfl, rfl⟩ := hrel
      go_wp2_with fail
      go_end0
      exact ⟨rfl, hfin, hmv⟩
  · have h1 := h.wv
    have hb : b < w.heap.size := World.block_lt_of_cell? w _ h1
    unfold maxLen at hmx
    go_enter Tryd.func87, Tryd.ntmps87
    go_wp2_with fail
    go_loopw [11] (fun i wr => ∃ k : Nat, k ≤ st.wait.length ∧ i = .int .i64 k ∧ IsPlate wr b (.slice (some ⟨g, 0, none⟩) st.wait.length cap) { st with is := settle (fun _ : Nat => 32) 0 (st.wait.take k) st.is } ∧ Moves (pfp b (.slice (some ⟨g, 0, none⟩) st.wait.length cap)) w wr) (fun i _ => st.wait.length - (intOf i).toNat)
    case atStart => exact ⟨0, Nat.zero_le _, rfl, by simpa [settle] using h, Moves.refl _ _⟩
    case round =>
      obtain ⟨k, hk, rfl, hp, hm⟩ := hrel
      have h1' := hp.wv
      have h2' := hp.fro 4097
      by_cases hlt : k < st.wait.length
      · obtain ⟨x, hx⟩ : ∃ x, st.wait[k]? = some x := ⟨_, List.getElem?_eq_getElem hlt⟩
        have H0 := Lib.hid hx
        have hwt := h.ok.wt x (List.mem_of_getElem? hx)
        have h128 := h.ok.hi
        obtain ⟨hrng, hgr⟩ := wait_range hp rfl h.ok hx
        have hrd := settle_round (c := (wcell x).toArray) (t := 274) hp h.ok hx (hcut k)
        clear hx
        have hlen : (Tryd.prog.info? 274).map (·.size) = some (wcell x).length := by rw [Tryd.sizeWrite]; simp [wcell, length_bcells, hwt.2]
        have hlen2 := Lib.hid (show (33 : Nat) = (wcell x).length by simp [wcell, length_bcells, hwt.2])
        have hx1 : (wcell x)[0]? = some (.int .i64 (x.1 : Int)) := rfl
        have hx2 : (x.1 : Int) < 128 := by omega
        have hms := hm.size
        go_wp2_with (first | (refine wpList_load_mid rfl 274 (.tmp 14) rfl g (k * 33) rfl (wcell x) _ hrng Tryd.underlying274 rfl hlen ?_) | (refine wpList_store_last rfl 274 (.tmp 5) (.tmp 15) rfl wr _ _ (wcell x) rfl rfl rfl hlen2.out hlen (one_wcell x) ?_))
        have hsrc := src_cells (w := wr) (t := 274) (x := x) (n := (fun _ : Nat => 32) k)
        have hdst : (wr.alloc (.cells (wcell x).toArray 274)).drew.there b (1 + x.1 * 32) ((fun _ : Nat => 32) k) := dst_there hp hwt.1 (hcut k) _
        have hmv : Moves (pfp b (.slice (some ⟨g, 0, none⟩) st.wait.length cap)) w ((wr.alloc (.cells (wcell x).toArray 274)).drew.setCells b (1 + x.1 * 32) (bcells (x.2.take ((fun _ : Nat => 32) k)))) :=
          (hm.alloc _).drew.setCells _ _ _ (.inl (.inl rfl))
        generalize hW : wr.alloc (.cells (wcell x).toArray 274) = W at hrd hsrc hdst hmv ⊢
        have hWc : W.cell? ⟨wr.heap.size, 0, none⟩ = some (.int .i64 (x.1 : Int)) := by rw [← hW]; simp [hx1]
        have HW := Lib.hid hW
        clear hW
        refine wp_region_still_tail 12 (by kernel_rfl) (by kernel_rfl) ?_
        simp only [List.take_succ_cons, List.take_zero, List.drop_succ_cons, List.drop_zero]
        iterate 10 still_step
        still_call ((all_any _ _).mono fun e w' ⟨he, hw⟩ => ⟨he, hw.symm⟩)
        still_step
        refine wpStill_nil ?_
        have hcl := Lib.hid (show (bcells (x.2.take ((fun _ : Nat => 32) k))).length = (fun _ : Nat => 32) k by rw [length_bcells, List.length_take, hwt.2]; exact Nat.min_eq_left (hcut k))
        refine wpList_copy_cells rfl (.tmp 22) (.tmp 27) 42 42 rfl 5 Tryd.underlying42 Tryd.sizeByte b (1 + x.1 * 32) 32 32 ⟨wr.heap.size, 1, none⟩ ((fun _ : Nat => 32) k) 32 rfl rfl (bcells (x.2.take ((fun _ : Nat => 32) k))) ?c1 ?c2 ?c3 (one_bcells _) ?_
        case c1 => rw [hcl.out]; exact (Nat.min_eq_left (hcut k)).symm
        case c2 => exact hsrc
        case c3 => rw [hcl.out]; exact hdst
        go_wp2_with fail
        go_roundw
        case rel => exact ⟨k + 1, by omega, by go_num, hrd, hmv⟩
        case measure => simp [intOf]; omega
      · have hq := hp
        rw [settled_all _ _ hlt] at hq
        have hfin := hq.setNil
        have hmv : Moves (pfp b (.slice (some ⟨g, 0, none⟩) st.wait.length cap)) w (wr.setCell ⟨b, 4097, none⟩ (.slice none 0 0)) := hm.setCell _ _ (.inl (.inl rfl))
        clear hq hp
        go_wp2_with fail
        go_end0
        exact ⟨rfl, hfin, hmv⟩

set_option maxRecDepth 100000 in
set_option maxHeartbeats 1000000 in
theorem settle_part {b : Nat} {v : Value} {st : PS} {w : World} (h : IsPlate w b v st) (hn : st.wait.length < 1000000000) (keep kb : Nat) (hkeep : keep < 18446744073709551616) (hkb : w.cell? ⟨kb, 0, none⟩ = some (.int .u64 (keep : Int))) (hkf : ¬ pfp b v kb) :
    Calls Tryd.prog 87 #[.pointer (some ⟨b, 0, none⟩), .func (.func 88) #[] #[.pointer (some ⟨kb, 0, none⟩)]] w fun e w' => e = .returned (.tuple #[]) ∧
      IsPlate w' b (.slice none 0 0) { st with is := settle (cutOf keep) 0 st.wait st.is, wait := [] } ∧ Moves (pfp b v) w w' := by
  have hcut : ∀ j : Nat, (cutOf keep) j ≤ 32 := cutOf_le keep
  rcases ownsRow_form h.own with ⟨rfl, h0, hx⟩ | ⟨g, cap, rfl, -, hg, hcap, hmx, hr, hf⟩
  · have h1 := h.wv
    have h2 := h.fro 4097
    have hwn : st.wait = [] := List.eq_nil_of_length_eq_zero h0
    have hfin : IsPlate (w.setCell ⟨b, 4097, none⟩ (.slice none 0 0)) b (.slice none 0 0) { st with is := settle (cutOf keep) 0 st.wait st.is, wait := [] } := by rw [hwn]; exact h.setNil
    have hmv : Moves (pfp b (.slice none 0 0)) w (w.setCell ⟨b, 4097, none⟩ (.slice none 0 0)) := (Moves.refl _ _).setCell _ _ (.inl (.inl rfl))
    clear hwn h0 hx hn
    go_enter Tryd.func87, Tryd.ntmps87
    go_wp2_with fail
    go_loopw [11] (fun i wr => i = .int .i64 0 ∧ wr = w) (fun _ _ => 0)
    case atStart => exact ⟨rfl, rfl⟩
    case round =>
      obtain ⟨rfl, rfl⟩ := hrel
      go_wp2_with fail
      go_end0
      exact ⟨rfl, hfin, hmv⟩
  · have h1 := h.wv
    have hb : b < w.heap.size := World.block_lt_of_cell? w _ h1
    unfold maxLen at hmx
    go_enter Tryd.func87, Tryd.ntmps87
    go_wp2_with fail
    go_loopw [11] (fun i wr => ∃ k : Nat, k ≤ st.wait.length ∧ i = .int .i64 k ∧ IsPlate wr b (.slice (some ⟨g, 0, none⟩) st.wait.length cap) { st with is := settle (cutOf keep) 0 (st.wait.take k) st.is } ∧ Moves (pfp b (.slice (some ⟨g, 0, none⟩) st.wait.length cap)) w wr) (fun i _ => st.wait.length - (intOf i).toNat)
    case atStart => exact ⟨0, Nat.zero_le _, rfl, by simpa [settle] using h, Moves.refl _ _⟩
    case round =>
      obtain ⟨k, hk, rfl, hp, hm⟩ := hrel
      have h1' := hp.wv
      have h2' := hp.fro 4097
      by_cases hlt : k < st.wait.length
      · obtain ⟨x, hx⟩ : ∃ x, st.wait[k]? = some x := ⟨_, List.getElem?_eq_getElem hlt⟩
        have H0 := Lib.hid hx
        have hwt := h.ok.wt x (List.mem_of_getElem? hx)
        have h128 := h.ok.hi
        obtain ⟨hrng, hgr⟩ := wait_range hp rfl h.ok hx
        have hrd := settle_round (c := (wcell x).toArray) (t := 274) hp h.ok hx (hcut k)
        clear hx
        have hlen : (Tryd.prog.info? 274).map (·.size) = some (wcell x).length := by rw [Tryd.sizeWrite]; simp [wcell, length_bcells, hwt.2]
        have hlen2 := Lib.hid (show (33 : Nat) = (wcell x).length by simp [wcell, length_bcells, hwt.2])
        have hx1 : (wcell x)[0]? = some (.int .i64 (x.1 : Int)) := rfl
        have hx2 : (x.1 : Int) < 128 := by omega
        have hms := hm.size
        have hkl := World.block_lt_of_cell? w _ hkb
        have hkr : wr.cell? ⟨kb, 0, none⟩ = some (.int .u64 (keep : Int)) := (hm.cell hkl hkf).trans hkb
        have hkrl := World.block_lt_of_cell? wr _ hkr
        go_wp2_with (first | (refine wpList_load_mid rfl 274 (.tmp 14) rfl g (k * 33) rfl (wcell x) _ hrng Tryd.underlying274 rfl hlen ?_) | (refine wpList_store_last rfl 274 (.tmp 5) (.tmp 15) rfl wr _ _ (wcell x) rfl rfl rfl hlen2.out hlen (one_wcell x) ?_))
        have hsrc := src_cells (w := wr) (t := 274) (x := x) (n := (cutOf keep) k)
        have hdst : (wr.alloc (.cells (wcell x).toArray 274)).drew.there b (1 + x.1 * 32) ((cutOf keep) k) := dst_there hp hwt.1 (hcut k) _
        have hmv : Moves (pfp b (.slice (some ⟨g, 0, none⟩) st.wait.length cap)) w ((wr.alloc (.cells (wcell x).toArray 274)).drew.setCells b (1 + x.1 * 32) (bcells (x.2.take ((cutOf keep) k)))) :=
          (hm.alloc _).drew.setCells _ _ _ (.inl (.inl rfl))
        generalize hW : wr.alloc (.cells (wcell x).toArray 274) = W at hrd hsrc hdst hmv ⊢
        have hWc : W.cell? ⟨wr.heap.size, 0, none⟩ = some (.int .i64 (x.1 : Int)) := by rw [← hW]; simp [hx1]
        have hkW : W.drew.cell? ⟨kb, 0, none⟩ = some (.int .u64 (keep : Int)) := by rw [← hW, World.cell?_drew, World.cell?_alloc_lt _ _ _ hkrl]; exact hkr
        have hsl := run_sliceAt_head (P := Tryd.prog) W.drew 205 32 5 1 Tryd.underlying205 Tryd.sizeByte ⟨wr.heap.size, 1, none⟩ (cutOf keep k) (hcut k)
        have HW := Lib.hid hW
        clear hW
        refine wp_region_still_tail 12 (by kernel_rfl) (by kernel_rfl) ?_
        simp only [List.take_succ_cons, List.take_zero, List.drop_succ_cons, List.drop_zero]
        iterate 10 still_step
        still_call ((part_any kb _ k (by omega) keep hkeep hkW).mono fun e w' ⟨he, hw⟩ => ⟨he, hw.symm⟩)
        still_step
        refine wpStill_nil ?_
        have hcl := Lib.hid (show (bcells (x.2.take ((cutOf keep) k))).length = (cutOf keep) k by rw [length_bcells, List.length_take, hwt.2]; exact Nat.min_eq_left (hcut k))
        refine wpList_copy_cells rfl (.tmp 22) (.tmp 27) 42 42 rfl 5 Tryd.underlying42 Tryd.sizeByte b (1 + x.1 * 32) 32 32 ⟨wr.heap.size, 1, none⟩ ((cutOf keep) k) 32 rfl rfl (bcells (x.2.take ((cutOf keep) k))) ?c1 ?c2 ?c3 (one_bcells _) ?_
        case c1 => rw [hcl.out]; exact (Nat.min_eq_left (hcut k)).symm
        case c2 => exact hsrc
        case c3 => rw [hcl.out]; exact hdst
        go_wp2_with fail
        go_roundw
        case rel => exact ⟨k + 1, by omega, by go_num, hrd, hmv⟩
        case measure => simp [intOf]; omega
      · have hq := hp
        rw [settled_all _ _ hlt] at hq
        have hfin := hq.setNil
        have hmv : Moves (pfp b (.slice (some ⟨g, 0, none⟩) st.wait.length cap)) w (wr.setCell ⟨b, 4097, none⟩ (.slice none 0 0)) := hm.setCell _ _ (.inl (.inl rfl))
        clear hq hp
        go_wp2_with fail
        go_end0
        exact ⟨rfl, hfin, hmv⟩
end Go.Proofs.YtkbncbkmaakpkaaDoor
