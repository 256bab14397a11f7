/- The plate's Read. -/
import Derived.Test.YtkbncbkmaakpkaaDoorPlateB
import Derived.Laws.CopyOwn
namespace Go.Proofs.YtkbncbkmaakpkaaDoor
open Go.RowKit

theorem Tryd.sizeSecLen (s : List UInt8) (h : s.length = 32) : (Tryd.prog.info? 205).map (·.size) = some (bcells s).length := by rw [Tryd.sizeSector, length_bcells, h]
theorem IsPlate.below {w w' : World} {b : Nat} {v : Value} {st : PS} (h : IsPlate w b v st) (hb : Below w.heap.size w w') : IsPlate w' b v st := h.keeps fun k hk => hb.block k (h.lt k hk)

set_option maxRecDepth 100000 in
set_option maxHeartbeats 1000000 in
theorem read_ok {b : Nat} {v : Value} {st : PS} {w : World} (h : IsPlate w b v st) (hwl : st.wait.length < 1000000000) (i : Nat) (hi : st.wrong i = 0) :
    Calls Tryd.prog 154 #[.pointer (some ⟨b, 0, none⟩), .int .i64 (i : Int)] w fun e w' =>
      e = .returned (.tuple #[.string ⟨(PS.curOf i st.wait (st.is.getD i [])).toArray⟩, .int .i64 0]) ∧ Below w.heap.size w w' := by
  have hwr := wrong_any h i
  have hiw : i < st.size := (PS.wrong_lt hi).2
  rw [hi] at hwr
  have h128 := h.ok.hi
  have hx2 : (i : Int) < 128 := by omega
  have hsl := h.ok.len
  obtain ⟨s0, hs0⟩ : ∃ s0, st.is[i]? = some s0 := ⟨_, List.getElem?_eq_getElem (by omega)⟩
  have hs0l : s0.length = 32 := h.ok.sec s0 (List.mem_of_getElem? hs0)
  have hsec := h.sec i s0 hs0
  have e0 : st.is.getD i [] = s0 := by rw [List.getD_eq_getElem?_getD, hs0]; rfl
  rw [e0]
  have H0 := Lib.hid hs0
  clear hs0 e0 hsl
  have hlen0 := Tryd.sizeSecLen s0 hs0l
  have hlz := Lib.hid (show 32 = (bcells s0).length by rw [length_bcells, hs0l])
  have hlr : ∀ s : List UInt8, s.length = 32 → (bcells s).length = 32 := fun s hs => by rw [length_bcells, hs]
  have Hlr := Lib.hid hlr
  have Hs0 := Lib.hid hs0l
  have hwv := h.wv
  have hbl := World.block_lt_of_cell? w _ hwv
  have hokw := h.ok.wt
  have Hwt := Lib.hid (show ∀ x ∈ st.wait, x.2.length = 32 from fun x hx => (hokw x hx).2)
  clear hlr hs0l hokw
  have hnew : ∀ cs : List Value, (w.alloc (.cells cs.toArray 205)).heap[w.heap.size]? = some (.cells cs.toArray 205 (0, 0)) := fun cs => heap_alloc_last w _
  have Hnew := Lib.hid hnew
  clear hnew
  obtain ⟨sa, cap, rfl, hcap, hmx, hform⟩ := ownsRow_slice h.own
  have Hform := Lib.hid hform
  clear hform
  unfold maxLen at hmx
  go_enter Tryd.func154, Tryd.ntmps154
  go_wp2_with fail
  refine hwr.mono ?_
  rintro e w1 ⟨rfl, rfl⟩
  clear hwr
  go_wp2_with (first | (refine wpList_load_mid rfl 205 (.tmp 20) rfl b (1 + i * 32) rfl (bcells s0) _ hsec Tryd.underlying205 rfl hlen0 ?_) | (refine wpList_store_last rfl 205 (.tmp 7) (.tmp 21) rfl w _ _ (bcells s0) rfl rfl rfl hlz.out hlen0 (one_bcells _) ?_))
  go_loopw [27] (fun c wr => ∃ k : Nat, k ≤ st.wait.length ∧ c = .int .i64 k ∧ wr.heap[w.heap.size]? = some (.cells (bcells (PS.curOf i (st.wait.take k) s0)).toArray 205 (0, 0)) ∧ Below w.heap.size w wr ∧ w.heap.size < wr.heap.size)
    (fun i _ => st.wait.length - (intOf i).toNat)
  case atStart => exact ⟨0, Nat.zero_le _, rfl, Hnew.out _, (Below.refl _ _).alloc (Nat.le_refl _) _, by simp⟩
  case round =>
    obtain ⟨k, hk, rfl, hrow, hbw, hlt2⟩ := hrel
    have Hrow := Lib.hid hrow
    have hcl : (PS.curOf i (st.wait.take k) s0).length = 32 := curOf_len i _ _ (fun x hx => Hwt.out x (List.mem_of_mem_take hx)) Hs0.out
    have Hcl := Lib.hid hcl
    clear hrow hcl
    by_cases hlt : k < st.wait.length
    · obtain ⟨x, hx⟩ : ∃ x, st.wait[k]? = some x := ⟨_, List.getElem?_eq_getElem hlt⟩
      obtain ⟨g, rfl⟩ := Hform.out (by omega)
      have hp' := h.below hbw
      obtain ⟨hrng, hgr⟩ := wait_range hp' rfl h.ok hx
      have hwt2 : x.2.length = 32 := Hwt.out x (List.mem_of_getElem? hx)
      have e1 : st.wait.take (k + 1) = st.wait.take k ++ [x] := by rw [List.take_add_one, hx]; rfl
      have He : Hid (PS.curOf i (st.wait.take (k + 1)) s0 = if x.1 = i then x.2 else PS.curOf i (st.wait.take k) s0) := by rw [e1]; exact curOf_snoc _ _ _ _
      clear hx e1 hp'
      obtain ⟨c1, He0⟩ : ∃ c1, Hid (c1 = PS.curOf i (st.wait.take (k + 1)) s0) := ⟨_, rfl⟩
      rw [← He0.out] at He
      have hlen : (Tryd.prog.info? 274).map (·.size) = some (wcell x).length := by rw [Tryd.sizeWrite]; simp [wcell, length_bcells, hwt2]
      have hlen2 := Lib.hid (show (33 : Nat) = (wcell x).length by simp [wcell, length_bcells, hwt2])
      have hx1 : (wcell x)[0]? = some (.int .i64 (x.1 : Int)) := rfl
      have hlenx := Tryd.sizeSecLen x.2 hwt2
      have Hw2 := Lib.hid hwt2
      clear hwt2
      have hW1 : (wr.alloc (.cells (wcell x).toArray 274)).rangeAt wr.heap.size 1 (bcells x.2) := fun j u hu => by
        have := rangeAt_part (w := wr.alloc (.cells (wcell x).toArray 274)) (b := wr.heap.size) (o := 0) (cs := wcell x) (fun j u hu => by rw [Nat.zero_add, World.cell?_alloc_new]; simpa using hu) 1 (bcells x.2)
          (fun j v hv => by rw [Nat.add_comm]; exact hv) j u hu
        simpa using this
      have hW2 : (wr.alloc (.cells (wcell x).toArray 274)).heap[w.heap.size]? = some (.cells (bcells (PS.curOf i (st.wait.take k) s0)).toArray 205 (0, 0)) :=
        (Below.heap_alloc _ _ _ hlt2).trans Hrow.out
      have HW2 := Lib.hid hW2
      clear hW2
      have hbW : Below w.heap.size w (wr.alloc (.cells (wcell x).toArray 274)) := hbw.alloc (Nat.le_of_lt hlt2) _
      have Hold := Lib.hid (show (bcells (PS.curOf i (st.wait.take k) s0)).toArray.size = (bcells x.2).toArray.size by simp only [List.size_toArray]; rw [length_bcells, length_bcells, Hcl.out, Hw2.out])
      by_cases hxi : x.1 = i
      · have e1 : ((x.1 : Int) == (i : Int)) = true := by simp [hxi]
        have Hc1 := Lib.hid (He.out.trans (if_pos hxi))
        clear hxi He
        go_wp2_with (first | (refine wpList_load_mid rfl 274 (.tmp 29) rfl g (k * 33) rfl (wcell x) _ hrng Tryd.underlying274 rfl hlen ?_) | (refine wpList_store_last rfl 274 (.tmp 9) (.tmp 30) rfl wr _ _ (wcell x) rfl rfl rfl hlen2.out hlen (one_wcell x) ?_) | (refine wpList_load_mid rfl 205 (.tmp 35) rfl wr.heap.size 1 rfl (bcells x.2) _ hW1 Tryd.underlying205 rfl hlenx ?_) | (refine wpList_store_row rfl 205 (.tmp 7) (.tmp 36) rfl w.heap.size (bcells x.2).toArray rfl rfl 205 _ HW2.out hlenx Hold.out (all_oneCell_toArray (one_bcells _)) ?_))
        go_roundw
        case rel =>
          refine ⟨k + 1, by omega, by go_num, ?_, below_setRow hbW (Nat.le_refl _) _, by simp [World.setRow]; omega⟩
          rw [← He0.out, Hc1.out]
          exact setRow_heap _ _ _ _ _ _ HW2.out
        case measure => simp [intOf]; omega
      · have e1 : ((x.1 : Int) == (i : Int)) = false := by simp; omega
        have Hc1 := Lib.hid (He.out.trans (if_neg hxi))
        clear hxi He
        go_wp2_with (first | (refine wpList_load_mid rfl 274 (.tmp 29) rfl g (k * 33) rfl (wcell x) _ hrng Tryd.underlying274 rfl hlen ?_) | (refine wpList_store_last rfl 274 (.tmp 9) (.tmp 30) rfl wr _ _ (wcell x) rfl rfl rfl hlen2.out hlen (one_wcell x) ?_))
        go_roundw
        case rel =>
          refine ⟨k + 1, by omega, by go_num, ?_, hbW, by simp; omega⟩
          rw [← He0.out, Hc1.out]
          exact HW2.out
        case measure => simp [intOf]; omega
    · have ek : st.wait.take k = st.wait := List.take_of_length_le (by omega)
      have Hek := Lib.hid ek
      clear ek
      have hconv := run_convert_bytes_back (P := Tryd.prog) wr 42 9 5 ⟨w.heap.size, 0, none⟩ 32 (PS.curOf i (st.wait.take k) s0) Tryd.underlying42 Tryd.underlying5 Tryd.underlying9
        (fun j hj => by rw [Addr.add_mid, cell_of_row _ _ _ _ _ _ Hrow.out]; simp [bcells, hj])
      rw [Hcl.out] at hconv
      go_wp2_with fail
      go_ret2
      exact ⟨by rw [Hek.out]; rfl, hbw⟩

set_option maxRecDepth 100000 in
set_option maxHeartbeats 1000000 in
theorem read_any {b : Nat} {v : Value} {st : PS} {w : World} (h : IsPlate w b v st) (hwl : st.wait.length < 1000000000) (i : Int) :
    Calls Tryd.prog 154 #[.pointer (some ⟨b, 0, none⟩), .int .i64 i] w fun e w' =>
      e = .returned (.tuple #[.string ⟨(st.readV i).toArray⟩, .int .i64 (st.wrong i)]) ∧ Below w.heap.size w w' := by
  by_cases hw : st.wrong i = 0
  · obtain ⟨n, rfl⟩ := Int.eq_ofNat_of_zero_le (PS.wrong_lt hw).1
    refine (read_ok h hwl n hw).mono ?_
    rintro e w' ⟨rfl, hb⟩
    exact ⟨by simp [PS.readV, hw], hb⟩
  · have e1 : st.readV i = [] := by simp [PS.readV, hw]
    rw [e1]
    have hwr := wrong_any h i
    have hb : (st.wrong i != 0) = true := by simpa using hw
    clear e1 hw
    generalize st.wrong i = q at hb hwr ⊢
    go_enter Tryd.func154, Tryd.ntmps154
    go_wp2_with fail
    refine hwr.mono ?_
    rintro e w1 ⟨rfl, rfl⟩
    go_wp2_with fail
    go_ret2
    exact ⟨rfl, Below.refl _ _⟩
end Go.Proofs.YtkbncbkmaakpkaaDoor
