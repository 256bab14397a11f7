/- wire.Decode: of what Encode made, and of what is no seal. -/
import Derived.Test.YtkbncbkmaakpkaaDoorSt1
import Derived.Test.YtkbncbkmaakpkaaDoorPost
import Derived.Test.YtkbncbkmaakpkaaDoorBagD
namespace Go.Proofs.YtkbncbkmaakpkaaDoor
open Go.RowKit
def part (m : Ms) (k : Nat) : Ms := ⟨if 0 < k then m.kind else 0, if 1 < k then m.src else 0, if 2 < k then m.dst else 0, if 3 < k then m.epoch else 0, if 4 < k then m.seq else 0, if 5 < k then m.off else 0, if 6 < k then m.len else 0, if 7 < k then m.data else ⟨#[]⟩⟩
theorem part_all (m : Ms) {k : Nat} (h : 8 ≤ k) : part m k = m := by
  unfold part
  rw [if_pos (by omega), if_pos (by omega), if_pos (by omega), if_pos (by omega), if_pos (by omega), if_pos (by omega), if_pos (by omega), if_pos (by omega)]
theorem part_succ (m : Ms) {k : Nat} (h : k < 8) {x : Value} (hx : m.cells[k]? = some x) : (part m (k + 1)).cells = (part m k).cells.set k x := by
  match k, h with
  | 0, _ => obtain rfl : Value.int .i64 m.kind = x := by simpa [Ms.cells] using hx
            rfl
  | 1, _ => obtain rfl : Value.int .i64 m.src = x := by simpa [Ms.cells] using hx
            rfl
  | 2, _ => obtain rfl : Value.int .i64 m.dst = x := by simpa [Ms.cells] using hx
            rfl
  | 3, _ => obtain rfl : Value.int .i64 m.epoch = x := by simpa [Ms.cells] using hx
            rfl
  | 4, _ => obtain rfl : Value.int .i64 m.seq = x := by simpa [Ms.cells] using hx
            rfl
  | 5, _ => obtain rfl : Value.int .i64 m.off = x := by simpa [Ms.cells] using hx
            rfl
  | 6, _ => obtain rfl : Value.int .i64 m.len = x := by simpa [Ms.cells] using hx
            rfl
  | 7, _ => obtain rfl : Value.string m.data = x := by simpa [Ms.cells] using hx
            rfl
theorem Boxed.set {w : World} {u k : Nat} {p p' : Ms} {x : Value} (h : Boxed w u p) (hc : p'.cells = p.cells.set k x) (hk : k < 8) : Boxed (w.setCell ⟨u, k, none⟩ x) u p' := by
  refine ⟨by simpa using h.1, fun j y hj => ?_⟩
  rw [hc] at hj
  by_cases e : j = k
  · subst e
    rw [List.getElem?_set_self (by rw [len_mcells]; exact hk)] at hj
    obtain ⟨o, ho⟩ : ∃ o, p.cells[j]? = some o := ⟨_, List.getElem?_eq_getElem (by rw [len_mcells]; exact hk)⟩
    rw [← Option.some.inj hj]
    exact World.cell?_setCell_same _ _ _ (h.2 j o ho)
  · rw [List.getElem?_set_ne (fun e' => e e'.symm)] at hj
    rw [World.cell?_setCell_other _ _ _ _ (by intro e'; injection e' with e1 e2; omega)]
    exact h.2 j y hj
theorem numL_d (m : Ms) {k n d : Nat} (h : (numL m)[k]? = some (n, d)) : d = 1 ∨ d = 2 ∨ d = 8 := by
  match k, h with
  | 0, h => obtain ⟨_, rfl⟩ : m.kind.toNat = n ∧ 1 = d := by simpa [numL] using h
            exact .inl rfl
  | 1, h => obtain ⟨_, rfl⟩ : m.src.toNat = n ∧ 1 = d := by simpa [numL] using h
            exact .inl rfl
  | 2, h => obtain ⟨_, rfl⟩ : m.dst.toNat = n ∧ 1 = d := by simpa [numL] using h
            exact .inl rfl
  | 3, h => obtain ⟨_, rfl⟩ : m.epoch.toNat = n ∧ 8 = d := by simpa [numL] using h
            exact .inr (.inr rfl)
  | 4, h => obtain ⟨_, rfl⟩ : m.seq.toNat = n ∧ 8 = d := by simpa [numL] using h
            exact .inr (.inr rfl)
  | 5, h => obtain ⟨_, rfl⟩ : m.off.toNat = n ∧ 2 = d := by simpa [numL] using h
            exact .inr (.inl rfl)
  | 6, h => obtain ⟨_, rfl⟩ : m.len.toNat = n ∧ 2 = d := by simpa [numL] using h
            exact .inr (.inl rfl)
  | k + 7, h => simp [numL] at h
def posM (m : Ms) (k : Nat) : Nat := if k ≤ 7 then (encN ((numL m).take k)).length else (encM m).length
theorem pos_col {m : Ms} (hc : m.check = 0) {k n d : Nat} (hk : (numL m)[k]? = some (n, d)) : posM m (k + 1) = posM m k + d ∧ posM m k + d ≤ (encM m).length ∧ leV (((encM m).drop (posM m k)).take d) = n := by
  have hk7 : k < 7 := (List.getElem?_eq_some_iff.1 hk).1
  have hn := (numL_ok hc 0 hk).2.1
  have e1 : posM m k = (encN ((numL m).take k)).length := if_pos (by omega)
  have e2 : posM m (k + 1) = (encN ((numL m).take (k + 1))).length := if_pos (by omega)
  have e3 : encN ((numL m).take (k + 1)) = encN ((numL m).take k) ++ leN n d := by rw [List.take_add_one, hk]; simp [encN]
  have e4 : encM m = encN ((numL m).take k) ++ (leN n d ++ (encN ((numL m).drop (k + 1)) ++ (leN m.data.size 2 ++ m.data.data.toList))) := by
    have : numL m = (numL m).take (k + 1) ++ (numL m).drop (k + 1) := (List.take_append_drop _ _).symm
    have h2 : encN (numL m) = encN ((numL m).take (k + 1)) ++ encN ((numL m).drop (k + 1)) := (congrArg encN this).trans List.flatMap_append
    rw [encM, h2, e3]
    simp
  refine ⟨by rw [e1, e2, e3, List.length_append, length_leN], by rw [e1, e4]; simp [length_leN], leV_mid e4 e1.symm hn⟩
theorem pos_text (m : Ms) (hd : m.data.size ≤ 1024) : posM m 7 + 2 ≤ (encM m).length ∧ leV (((encM m).drop (posM m 7)).take 2) = m.data.size ∧ posM m 7 + 2 + m.data.size = (encM m).length ∧ bstr (((encM m).drop (posM m 7 + 2)).take m.data.size) = m.data := by
  have e1 : posM m 7 = (encN (numL m)).length := rfl
  have e2 : (encN (numL m)).length = 23 := by simp [encN, numL, length_leN]
  have e3 := encM_len m
  refine ⟨by omega, leV_mid (A := encN (numL m)) (C := m.data.data.toList) rfl e1.symm (by omega), by omega, ?_⟩
  have e4 : encM m = (encN (numL m) ++ leN m.data.size 2) ++ m.data.data.toList := by simp [encM]
  rw [e4, List.drop_left' (by rw [List.length_append, length_leN, e1]), List.take_of_length_le (show m.data.data.toList.length ≤ m.data.size from Nat.le_refl _)]
  exact bstr_of m.data
section
variable {w : World}
set_option maxRecDepth 100000 in
set_option maxHeartbeats 4000000 in
theorem decode_ok (ht : Tabs w) (m : Ms) (hf : m.fits) (hc : m.check = 0) : Calls Tryd.prog 20 #[.string (bstr (sealB (encM m)))] w fun e w' => e = .returned (.tuple #[m.val, .nilIface]) ∧ Below w.heap.size w w' := by
  have hlm := encM_len m
  have hdz := (check_in hc).2.2.2.2.2.2.2
  have hl : (encM m).length ≤ 1000000 := by omega
  have hbA : Below w.heap.size w (w.alloc (.cells Ms.zero.cells.toArray 51)) := (Below.refl _ _).alloc (Nat.le_refl _) _
  have hop := open_ok (ht.below hbA ht.lt) (encM m) hl
  have HBA := Lib.hid hbA
  have HC := Lib.hid hc
  have HL := Lib.hid hl
  have HDZ := Lib.hid hdz
  have hr0 : ∀ o, (w.alloc (.cells Ms.zero.cells.toArray 51)).frozen? ⟨w.heap.size, o, none⟩ = false := fun o => World.frozen?_alloc_new _ _ _ _
  have HR0 := Lib.hid hr0
  clear hbA ht hlm hc hl hdz hr0
  go_enter Tryd.func20, Tryd.ntmps20
  go_wp2_with fail
  refine hop.mono ?_
  rintro e w1 ⟨rfl, hb1⟩
  have hnr := newreader_any (w := w1) (encM m)
  have HB1 := Lib.hid hb1
  clear hop hb1
  go_wp2_with fail
  refine hnr.mono ?_
  rintro e w2 ⟨rfl, hr2, hb2⟩
  have HR2 := Lib.hid hr2
  have HB2 := Lib.hid hb2
  clear hnr hr2 hb2
  go_wp2_with fail
  generalize hb : w1.heap.size = b at HR2 ⊢
  generalize hu : w2.heap.size = u
  generalize hW : w2.alloc (.cells #[.int .i64 0, .int .i64 0, .int .i64 0, .int .i64 0, .int .i64 0, .int .i64 0, .int .i64 0, .string ⟨#[]⟩] 51) = W
  have hbx : Boxed W u (part m 0) := by rw [← hW, ← hu]; exact Boxed.made w2 (part m 0) 51
  have hfu : ∀ o, W.frozen? ⟨u, o, none⟩ = false := fun o => by rw [← hW, ← hu]; exact World.frozen?_alloc_new _ _ _ _
  have hb2W : Below w2.heap.size w2 W := by rw [← hW]; exact (Below.refl _ _).alloc (Nat.le_refl _) _
  have hub : b < u := by
    have := HR2.out.lt
    omega
  have hrw : IsR W b (encM m) 0 := HR2.out.below hb2W
  have hb1W : Below w1.heap.size w1 W := HB2.out.trans (hb2W.mono HB2.out.size)
  have hst := steps_any (w := W) b u
  have hbW : Below w.heap.size w W := HBA.out.trans ((HB1.out.trans (hb1W.mono HB1.out.size)).mono HBA.out.size)
  have hrl : w.heap.size < b := by have := HB1.out.size; simp at this; omega
  have hr0W : W.heap[w.heap.size]? = (w.alloc (.cells Ms.zero.cells.toArray 51)).heap[w.heap.size]? := (hb1W.block _ (by omega)).trans (HB1.out.block _ (by simp))
  have HBX := Lib.hid hbx
  have HFU := Lib.hid hfu
  have HUB := Lib.hid hub
  have HRW := Lib.hid hrw
  have HBW := Lib.hid hbW
  have HRL := Lib.hid hrl
  have HR0W := Lib.hid hr0W
  clear hbx hfu hb2W hub hrw hb1W hbW hrl hW hb hu HB1 HB2 HR2 HBA hr0W
  refine hst.mono ?_
  rintro e w3 ⟨g, cap, rv, mv, fl, rfl, hfl, hfs, hgc, hrv, hmv, hrvl, hmvl, hgl, hb3⟩
  have HFL := Lib.hid hfl
  have HFS := Lib.hid hfs
  have HGC := Lib.hid hgc
  have HRV := Lib.hid hrv
  have HMV := Lib.hid hmv
  have HLE := Lib.hid (show W.heap.size ≤ rv ∧ W.heap.size ≤ mv ∧ W.heap.size ≤ g from ⟨hrvl, hmvl, hgl⟩)
  have HB3 := Lib.hid hb3
  clear hst hfl hfs hgc hrv hmv hrvl hmvl hgl hb3
  go_wp2_with fail
  go_loopw [9, 10, 25] (fun _ _ c wr => ∃ k : Nat, k ≤ 10 ∧ c = .int .i64 (k : Int) ∧ IsR wr b (encM m) (posM m k) ∧ Boxed wr u (part m k) ∧ (∀ o, wr.frozen? ⟨u, o, none⟩ = false) ∧ Moves (fun q => q = b ∨ q = u) w3 wr) (fun _ _ c _ => 10 - (intOf c).toNat)
  case atStart => exact ⟨0, Nat.zero_le _, rfl, HRW.out.below HB3.out, HBX.out.below HB3.out, fun o => (World.frozen?_of_block (a := ⟨u, o, none⟩) (HB3.out.block u HBX.out.1)).trans (HFU.out o), Moves.refl _ _⟩
  case round =>
    obtain ⟨k, hk, rfl, hr, hbx, hfu, hmo⟩ := hrel
    have hbl := HRW.out.lt
    have hul := HBX.out.1
    have hle := HLE.out
    have hne := HUB.out
    -- a cell of w3 in neither b nor u
    have hkeep : ∀ q, q < w3.heap.size → q ≠ b → q ≠ u → wr.heap[q]? = w3.heap[q]? := fun q h1 h2 h3 => hmo.block q h1 (fun e => by rcases e with e | e; exact h2 e; exact h3 e)
    have hrvc : wr.cell? ⟨rv, 0, none⟩ = some (.pointer (some ⟨b, 0, none⟩)) := (World.cell?_of_block (a := ⟨rv, 0, none⟩) (hkeep rv (World.block_lt_of_cell? w3 _ HRV.out) (by omega) (by omega))).trans HRV.out
    have hmvc : wr.cell? ⟨mv, 0, none⟩ = some (.pointer (some ⟨u, 0, none⟩)) := (World.cell?_of_block (a := ⟨mv, 0, none⟩) (hkeep mv (World.block_lt_of_cell? w3 _ HMV.out) (by omega) (by omega))).trans HMV.out
    have hgcc : ∀ i f, (fl ++ clo3 b rv mv)[i]? = some f → wr.cell? ⟨g, i, none⟩ = some f := fun i f hi => (World.cell?_of_block (a := ⟨g, i, none⟩) (hkeep g (World.block_lt_of_cell? w3 _ (HGC.out i f hi)) (by omega) (by omega))).trans (HGC.out i f hi)
    by_cases h7 : k < 7
    · obtain ⟨f, hfk⟩ : ∃ f, fl[k]? = some f := ⟨_, List.getElem?_eq_getElem (by rw [HFL.out]; exact h7)⟩
      obtain ⟨c, rfl, hic, hcl, hcg⟩ := HFS.out k f hfk
      have hgk := hgcc k _ (by rw [List.getElem?_append_left (by rw [HFL.out]; exact h7)]; exact hfk)
      obtain ⟨⟨n, d⟩, hx⟩ : ∃ x, (numL m)[k]? = some x := ⟨_, List.getElem?_eq_getElem (show k < (numL m).length from h7)⟩
      obtain ⟨hp1, hp2, hp3⟩ := pos_col HC.out hx
      obtain ⟨-, -, hn2, hcm, -, hcd, -⟩ := numL_ok HC.out u hx
      have hic' := hic.keep (hkeep c (World.block_lt_of_cell? w3 _ hic.c0) (by omega) (by omega))
      obtain ⟨dv, hd1, hd2⟩ := hic'.c1
      rw [hcd] at hd1
      obtain rfl := Option.some.inj hd1
      obtain ⟨old, hold⟩ : ∃ o, (part m k).cells[k]? = some o := ⟨_, List.getElem?_eq_getElem (by rw [len_mcells]; omega)⟩
      have hs1 := st1_any hr HL.out hrvc hic'.c0 hd2 (numL_d m hx) hp2 hp3 hn2 (hbx.2 k old hold) (hfu k) (by omega) (by omega)
      have hps := part_succ m (by omega) hcm
      have HN : Hid (∀ wx, (∃ w1, IsR w1 b (encM m) (posM m k + d) ∧ Moves (fun q => q = b) wr w1 ∧ wx = w1.setCell ⟨u, k, none⟩ (.int .i64 (n : Int))) → IsR wx b (encM m) (posM m (k + 1)) ∧ Boxed wx u (part m (k + 1)) ∧ (∀ o, wx.frozen? ⟨u, o, none⟩ = false) ∧ Moves (fun q => q = b ∨ q = u) w3 wx) := Lib.hid fun wx hx => by
        obtain ⟨wy, h1, h2, rfl⟩ := hx
        have hku := h2.block u hbx.1 (by omega)
        rw [hp1]
        refine ⟨h1.keep (Below.heap_setCell _ _ _ _ (by simp; omega)), Boxed.set (hbx.keep hku h2.size) hps (by omega), fun o => by rw [World.frozen?_setCell]; exact (World.frozen?_of_block (a := ⟨u, o, none⟩) hku).trans (hfu o), (hmo.trans h2 fun q hq => .inl (.inl hq)).setCell _ _ (.inl (.inr rfl))⟩
      unfold clo1 at hgk
      clear hr hbx hfu hmo hkeep hrvc hmvc hgcc hic hic' hcl hcg hp1 hp2 hp3 hcm hcd hold hps hfk hd1 hd2 hx hle hbl hul hne
      go_wp2_with fail
      refine hs1.mono ?_
      rintro e wx ⟨rfl, hwx⟩
      have HX := Lib.hid (HN.out wx hwx)
      clear hs1 hwx hgk hn2 HN
      go_wp2_with fail
      go_roundw
      case rel => exact ⟨k + 1, by omega, by go_num, HX.out⟩
      case measure => simp [intOf]; omega
    · by_cases h7 : k = 7
      · have hgk := hgcc k (.func (.func 104) #[] #[.pointer (some ⟨rv, 0, none⟩), .pointer (some ⟨mv, 0, none⟩)]) (by rw [List.getElem?_append_right (by rw [HFL.out]; omega), HFL.out, h7]; rfl)
        obtain ⟨ht1, ht2, ht3, ht4⟩ := pos_text m HDZ.out
        have hr7 : IsR wr b (encM m) (posM m 7) := h7 ▸ hr
        have hs2 := st2_any hr7 HL.out hrvc hmvc ht1 ht2 HDZ.out (by omega) ht4 (hbx.2 7 _ rfl) (hfu 7) (by omega) (by omega)
        have hps := part_succ (k := 7) m (by omega) (x := .string m.data) rfl
        have HN : Hid (∀ wx, (∃ w1, IsR w1 b (encM m) (posM m 7 + 2 + m.data.size) ∧ Moves (fun q => q = b) wr w1 ∧ wx = w1.setCell ⟨u, 7, none⟩ (.string m.data)) → IsR wx b (encM m) (posM m (k + 1)) ∧ Boxed wx u (part m (k + 1)) ∧ (∀ o, wx.frozen? ⟨u, o, none⟩ = false) ∧ Moves (fun q => q = b ∨ q = u) w3 wx) := Lib.hid fun wx hx => by
          obtain ⟨wy, h1, h2, rfl⟩ := hx
          have hku := h2.block u hbx.1 (by omega)
          rw [h7, show posM m (7 + 1) = posM m 7 + 2 + m.data.size from ht3.symm]
          rw [h7] at hbx
          refine ⟨h1.keep (Below.heap_setCell _ _ _ _ (by simp; omega)), Boxed.set (hbx.keep hku h2.size) hps (by omega), fun o => by rw [World.frozen?_setCell]; exact (World.frozen?_of_block (a := ⟨u, o, none⟩) hku).trans (hfu o), (hmo.trans h2 fun q hq => .inl (.inl hq)).setCell _ _ (.inl (.inr rfl))⟩
        have hk10 : k < 10 := by omega
        clear hr hbx hfu hmo hkeep hrvc hmvc hgcc hps hle hbl hul hne ht1 ht2 ht3 ht4 hr7 h7
        go_wp2_with fail
        refine hs2.mono ?_
        rintro e wx ⟨rfl, hwx⟩
        have HX := Lib.hid (HN.out wx hwx)
        clear hs2 hwx hgk HN
        go_wp2_with fail
        go_roundw
        case rel => exact ⟨k + 1, by omega, by go_num, HX.out⟩
        case measure => simp [intOf]; omega
      · by_cases h8 : k = 8
        · have hgk := hgcc k (.func (.func 98) #[.pointer (some ⟨b, 0, none⟩)] #[]) (by rw [List.getElem?_append_right (by rw [HFL.out]; omega), HFL.out, h8]; rfl)
          have hen := rend hr (by rw [h8]; rfl)
          have HN : Hid (∀ wx, Below wr.heap.size wr wx → IsR wx b (encM m) (posM m (k + 1)) ∧ Boxed wx u (part m (k + 1)) ∧ (∀ o, wx.frozen? ⟨u, o, none⟩ = false) ∧ Moves (fun q => q = b ∨ q = u) w3 wx) := Lib.hid fun wx hb => by
            have e1 : posM m (k + 1) = posM m k := by rw [h8]; rfl
            have e2 : part m (k + 1) = part m k := by rw [part_all m (by omega), part_all m (by omega)]
            rw [e1, e2]
            exact ⟨hr.below hb, hbx.below hb, fun o => (World.frozen?_of_block (a := ⟨u, o, none⟩) (hb.block u hbx.1)).trans (hfu o), hmo.trans (Moves.of_below (F := fun _ => False) hb) fun _ h => h.elim⟩
          have hk10 : k < 10 := by omega
          clear hr hbx hfu hmo hkeep hrvc hmvc hgcc hle hbl hul hne h8 h7
          go_wp2_with fail
          refine hen.mono ?_
          rintro e wx ⟨rfl, hwx⟩
          have HX := Lib.hid (HN.out wx hwx)
          clear hen hwx hgk HN
          go_wp2_with fail
          go_roundw
          case rel => exact ⟨k + 1, by omega, by go_num, HX.out⟩
          case measure => simp [intOf]; omega
        · by_cases h9 : k = 9
          · have hgk := hgcc k (.func (.func 105) #[] #[.pointer (some ⟨mv, 0, none⟩)]) (by rw [List.getElem?_append_right (by rw [HFL.out]; omega), HFL.out, h9]; rfl)
            rw [part_all m (show 8 ≤ k by omega)] at hbx
            have hs3 := st3_any hbx hmvc hf HC.out
            have HN : Hid (∀ wx, Below wr.heap.size wr wx → IsR wx b (encM m) (posM m (k + 1)) ∧ Boxed wx u (part m (k + 1)) ∧ (∀ o, wx.frozen? ⟨u, o, none⟩ = false) ∧ Moves (fun q => q = b ∨ q = u) w3 wx) := Lib.hid fun wx hb => by
              have e1 : posM m (k + 1) = posM m k := by rw [h9]; rfl
              rw [e1, part_all m (by omega)]
              exact ⟨hr.below hb, hbx.below hb, fun o => (World.frozen?_of_block (a := ⟨u, o, none⟩) (hb.block u hbx.1)).trans (hfu o), hmo.trans (Moves.of_below (F := fun _ => False) hb) fun _ h => h.elim⟩
            have hk10 : k < 10 := by omega
            clear hr hbx hfu hmo hkeep hrvc hmvc hgcc hle hbl hul hne h9 h8 h7
            go_wp2_with fail
            refine hs3.mono ?_
            rintro e wx ⟨rfl, hwx⟩
            have HX := Lib.hid (HN.out wx hwx)
            clear hs3 hwx hgk HN
            go_wp2_with fail
            go_roundw
            case rel => exact ⟨k + 1, by omega, by go_num, HX.out⟩
            case measure => simp [intOf]; omega
          · have hk10 : k = 10 := by omega
            rw [part_all m (show 8 ≤ k by omega)] at hbx
            obtain ⟨q0, q1, q2, q3, q4, q5, q6, q7⟩ := hbx.all
            have hr0k : wr.heap[w.heap.size]? = (w.alloc (.cells Ms.zero.cells.toArray 51)).heap[w.heap.size]? := (hkeep w.heap.size (by have := HB3.out.size; have := HRL.out; omega) (by have := HRL.out; omega) (by have := HRL.out; omega)).trans ((HB3.out.block _ (by have := HRL.out; omega)).trans HR0W.out)
            have hz : Boxed wr w.heap.size Ms.zero := (Boxed.made w Ms.zero 51).keep hr0k (by have := HBW.out.size; have := HB3.out.size; have := hmo.size; have := HRL.out; simp; omega)
            obtain ⟨z0, z1, z2, z3, z4, z5, z6, z7⟩ := hz.all
            have hfz : ∀ o, wr.frozen? ⟨w.heap.size, o, none⟩ = false := fun o => (World.frozen?_of_block (a := ⟨w.heap.size, o, none⟩) hr0k).trans (HR0.out o)
            have f0 := hfz 0
            have f1 := hfz 1
            have f2 := hfz 2
            have f3 := hfz 3
            have f4 := hfz 4
            have f5 := hfz 5
            have f6 := hfz 6
            have f7 := hfz 7
            have hbw : Below w.heap.size w wr := (HBW.out.trans (HB3.out.mono HBW.out.size)).trans (hmo.below (by have := HB3.out.size; have := HBW.out.size; omega) fun q hq => by have := HRL.out; have := HUB.out; rcases hq with e | e <;> omega)
            have HBWR := Lib.hid hbw
            have HZ := Lib.hid hz
            clear hr hbx hfu hmo hkeep hrvc hmvc hgcc hle hbl hul hne h9 h8 h7 hr0k hz hfz hbw
            go_wp2_with fail
            obtain ⟨y0, y1, y2, y3, y4, y5, y6, y7⟩ := (HZ.out.told8 m).all
            refine bodyPost_ret (v := .tuple #[m.val, .nilIface]) (by unfold Ms.val; simp [results, Tryd.results20, go_sem, y0, y1, y2, y3, y4, y5, y6, y7]) rfl ?_
            refine ⟨rfl, ?_⟩
            exact (((((((HBWR.out.setCell (by simp) _).setCell (by simp) _).setCell (by simp) _).setCell (by simp) _).setCell (by simp) _).setCell (by simp) _).setCell (by simp) _).setCell (by simp) _
set_option maxRecDepth 100000 in
set_option maxHeartbeats 4000000 in
theorem decode_bad (ht : Tabs w) (l s : List UInt8) (hl : l.length ≤ 1000000) (hs : s.length = 4) (hne : s ≠ lastB l) : Calls Tryd.prog 20 #[.string (bstr (l ++ s))] w fun e w' => ∃ q, e = .returned (.tuple #[Ms.zero.val, .iface 132 (.pointer (some ⟨q, 0, none⟩))]) ∧ IsF w' q 20 0 ∧ Below w.heap.size w w' ∧ w.heap.size ≤ q := by
  have hbA : Below w.heap.size w (w.alloc (.cells Ms.zero.cells.toArray 51)) := (Below.refl _ _).alloc (Nat.le_refl _) _
  have hop := open_bad (ht.below hbA ht.lt) l s hl hs hne
  have HBA := Lib.hid hbA
  have hr0 : ∀ o, (w.alloc (.cells Ms.zero.cells.toArray 51)).frozen? ⟨w.heap.size, o, none⟩ = false := fun o => World.frozen?_alloc_new _ _ _ _
  have HR0 := Lib.hid hr0
  clear hbA ht hl hne hr0 hs
  go_enter Tryd.func20, Tryd.ntmps20
  go_wp2_with fail
  refine hop.mono ?_
  rintro e w1 ⟨rfl, hb1⟩
  have hw := wrap_any (wr := w1) 20 0 rfl
  have HB1 := Lib.hid hb1
  clear hop hb1
  go_wp2_with fail
  refine hw.mono ?_
  rintro e w2 ⟨rfl, hi2, hb2, -⟩
  have hb12 : Below (w.alloc (.cells Ms.zero.cells.toArray 51)).heap.size (w.alloc (.cells Ms.zero.cells.toArray 51)) w2 := HB1.out.trans (hb2.mono HB1.out.size)
  have hzk := hb12.block w.heap.size (by simp)
  have hz : Boxed w2 w.heap.size Ms.zero := (Boxed.made w Ms.zero 51).keep hzk hb12.size
  have hbw : Below w.heap.size w w2 := HBA.out.trans (hb12.mono (by simp))
  have hne : w1.heap.size ≠ w.heap.size := by have := HB1.out.size; simp at this; omega
  obtain ⟨z0, z1, z2, z3, z4, z5, z6, z7⟩ := hz.all
  have hfz : ∀ o, w2.frozen? ⟨w.heap.size, o, none⟩ = false := fun o => (World.frozen?_of_block (a := ⟨w.heap.size, o, none⟩) hzk).trans (HR0.out o)
  have f0 := hfz 0
  have f1 := hfz 1
  have f2 := hfz 2
  have f3 := hfz 3
  have f4 := hfz 4
  have f5 := hfz 5
  have f6 := hfz 6
  have f7 := hfz 7
  have HBW := Lib.hid hbw
  have HZ := Lib.hid hz
  have HI := Lib.hid hi2
  have HNE := Lib.hid hne
  clear hw hi2 hb2 hb12 hzk hz hbw hfz hne
  go_wp2_with fail
  obtain ⟨y0, y1, y2, y3, y4, y5, y6, y7⟩ := (HZ.out.told8 ⟨0, 0, 0, 0, 0, 0, 0, ⟨#[]⟩⟩).all
  dsimp only at y0 y1 y2 y3 y4 y5 y6 y7
  refine bodyPost_ret (v := .tuple #[.agg #[.int .i64 0, .int .i64 0, .int .i64 0, .int .i64 0, .int .i64 0, .int .i64 0, .int .i64 0, .string ⟨#[]⟩], .iface 132 (.pointer (some ⟨w1.heap.size, 0, none⟩))]) (by simp [results, Tryd.results20, go_sem, y0, y1, y2, y3, y4, y5, y6, y7]) rfl ?_
  have hne := HNE.out
  refine ⟨w1.heap.size, rfl, ?_, ?B, by have := HB1.out.size; simp at this; omega⟩
  case B => exact (((((((HBW.out.setCell (by simp) _).setCell (by simp) _).setCell (by simp) _).setCell (by simp) _).setCell (by simp) _).setCell (by simp) _).setCell (by simp) _).setCell (by simp) _
  have hkp : ∀ o, ((((((((w2.setCell ⟨w.heap.size, 0, none⟩ (.int .i64 0)).setCell ⟨w.heap.size, 1, none⟩ (.int .i64 0)).setCell ⟨w.heap.size, 2, none⟩ (.int .i64 0)).setCell ⟨w.heap.size, 3, none⟩ (.int .i64 0)).setCell ⟨w.heap.size, 4, none⟩ (.int .i64 0)).setCell ⟨w.heap.size, 5, none⟩ (.int .i64 0)).setCell ⟨w.heap.size, 6, none⟩ (.int .i64 0)).setCell ⟨w.heap.size, 7, none⟩ (.string ⟨#[]⟩)).cell? ⟨w1.heap.size, o, none⟩ = w2.cell? ⟨w1.heap.size, o, none⟩ := fun o => by
    refine World.cell?_of_block (a := ⟨w1.heap.size, o, none⟩) ?_
    iterate 8 refine (Below.heap_setCell _ _ _ _ (by simp; omega)).trans ?_
    rfl
  exact ⟨(hkp 0).trans HI.out.c0, (hkp 1).trans HI.out.c1, (hkp 2).trans HI.out.c2⟩
end
end Go.Proofs.YtkbncbkmaakpkaaDoor
