/- The row's drop. Printed by gen_drop.py. -/
import Derived.Test.YtkbncbkmaakpkaaDoorBagB
namespace Go.Proofs.YtkbncbkmaakpkaaDoor
open Go.RowKit
/-- Those that are not wished. -/
def keepL (wish : Nat → Ms → Bool) : Nat → List Ms → List Ms
  | _, [] => []
  | i, m :: r => if wish i m then keepL wish (i + 1) r else m :: keepL wish (i + 1) r
theorem keepL_snoc (wish : Nat → Ms → Bool) (m : Ms) : ∀ (l : List Ms) (i : Nat), keepL wish i (l ++ [m]) = keepL wish i l ++ (if wish (i + l.length) m then [] else [m])
  | [], i => by simp [keepL]
  | x :: r, i => by
    have ih := keepL_snoc wish m r (i + 1)
    rw [show i + 1 + r.length = i + (x :: r).length by simp; omega] at ih
    simp only [List.cons_append, keepL, ih]
    split <;> simp
theorem keepL_len (wish : Nat → Ms → Bool) : ∀ (l : List Ms) (i : Nat), (keepL wish i l).length ≤ l.length
  | [], _ => Nat.le_refl _
  | x :: r, i => by
    have ih := keepL_len wish r (i + 1)
    simp only [keepL]
    split <;> simp <;> omega
theorem keepL_mem (wish : Nat → Ms → Bool) : ∀ (l : List Ms) (i : Nat), ∀ m ∈ keepL wish i l, m ∈ l
  | [], _, _, h => by simp [keepL] at h
  | x :: r, i, m, h => by
    simp only [keepL] at h
    split at h
    · exact List.mem_cons_of_mem _ (keepL_mem wish r (i + 1) m h)
    · rcases List.mem_cons.1 h with h1 | h1
      · rw [h1]; simp
      · exact List.mem_cons_of_mem _ (keepL_mem wish r (i + 1) m h1)
section
variable {w : World} {b : Nat} {v : Value} {l : List Ms}
set_option maxRecDepth 100000 in
set_option maxHeartbeats 4000000 in
theorem drop_take (h : Has w b v l) (hl : l.length ≤ 1000) (kb : Nat) (z : Int) (wish : Nat → Ms → Bool) (hkb : w.cell? ⟨kb, 0, none⟩ = some (.int .i64 z))
    (hw : ∀ (W : World) (i : Nat) (m : Ms), W.cell? ⟨kb, 0, none⟩ = some (.int .i64 z) → m.fits → Calls Tryd.prog 58 #[.int .i64 (i : Int), m.val, .pointer (some ⟨kb, 0, none⟩)] W fun e w' => e = .returned (.bool (wish i m)) ∧ Below W.heap.size W w') :
    Calls Tryd.prog 57 #[.pointer (some ⟨b, 0, none⟩), .func (.func 58) #[] #[.pointer (some ⟨kb, 0, none⟩)]] w fun e w' =>
      e = .returned (.int .i64 ((l.length : Int) - ((keepL wish 0 l).length : Int))) ∧ Turned w b v (keepL wish 0 l) w' := by
  have hkl := World.block_lt_of_cell? w _ hkb
  have hc0 := h.c0
  have hfr := h.fro 0
  have hbl := h.lt b (.inl rfl)
  obtain ⟨i0, hi0, hz0, hz1, hz2⟩ := info_parts Tryd.infoMsg
  have Hi := Lib.hid hi0
  have Hz := Lib.hid hz0
  have Hz1 := Lib.hid hz1
  have Hz2 := Lib.hid hz2
  have Hw := Lib.hid hw
  have Hh := Lib.hid h
  have Hkb := Lib.hid hkb
  obtain ⟨a, cap, rfl⟩ := h.lens
  clear hi0 hz0 hz1 hz2 hw hkb h
  go_enter Tryd.func57, Tryd.ntmps57
  go_wp2_with fail
  go_loopw [5, 14] (fun v5 i wr => ∃ k : Nat, k ≤ l.length ∧ i = .int .i64 (k : Int) ∧ Below w.heap.size w wr ∧ wr.ownsRow w.heap.size 51 8 v5 (keepL wish 0 (l.take k)).length (mrows (keepL wish 0 (l.take k))))
    (fun _ i _ => l.length - (intOf i).toNat)
  case atStart => exact ⟨0, Nat.zero_le _, rfl, Below.refl _ _, World.ownsRow_nil _ _ _ _⟩
  case round =>
    obtain ⟨k, hk, rfl, hb, hown⟩ := hrel
    by_cases hlt : k < l.length
    · obtain ⟨m, hm⟩ : ∃ m, l[k]? = some m := ⟨_, List.getElem?_eq_getElem hlt⟩
      have hmf := Hh.out.fits m (List.mem_of_getElem? hm)
      obtain ⟨g, cap2, hv, hg, hc⟩ := (Hh.out.below hb).at hm
      simp only [Value.slice.injEq] at hv
      obtain ⟨rfl, -, -⟩ := hv
      have q0 := hc 0 _ rfl
      have q1 := hc 1 _ rfl
      have q2 := hc 2 _ rfl
      have q3 := hc 3 _ rfl
      have q4 := hc 4 _ rfl
      have q5 := hc 5 _ rfl
      have q6 := hc 6 _ rfl
      have q7 := hc 7 _ rfl
      rw [Nat.add_zero] at q0
      have hsn : keepL wish 0 (l.take (k + 1)) = keepL wish 0 (l.take k) ++ (if wish k m then [] else [m]) := by
        have e : l.take (k + 1) = l.take k ++ [m] := by rw [List.take_add_one, hm]; rfl
        rw [e, keepL_snoc, show 0 + (l.take k).length = k by simp; omega]
      have Hsn := Lib.hid hsn
      have hbA : Below w.heap.size w (wr.alloc (.cells m.cells.toArray 51)) := hb.alloc hb.size _
      have hcall := Hw.out (wr.alloc (.cells m.cells.toArray 51)) k m ((World.cell?_of_block (a := ⟨kb, 0, none⟩) (hbA.block kb hkl)).trans Hkb.out) hmf
      have hbx := Boxed.made wr m 51
      have hownA := hown.alloc (.cells m.cells.toArray 51)
      have HA := Lib.hid hbA
      have Hbx := Lib.hid hbx
      have HownA := Lib.hid hownA
      have Hown := Lib.hid hown
      clear hm hc hsn hbA hbx hownA hown hg hb
      go_wp2_with fail
      refine hcall.mono ?_
      rintro e w2 ⟨rfl, hb2⟩
      have hbw : Below w.heap.size w w2 := HA.out.trans (hb2.mono HA.out.size)
      obtain ⟨r0, r1, r2, r3, r4, r5, r6, r7⟩ := (Hbx.out.below hb2).all
      have hown2 : w2.ownsRow w.heap.size 51 8 u5 (keepL wish 0 (l.take k)).length (mrows (keepL wish 0 (l.take k))) := ownsRow_keep HownA.out fun q hq => hb2.block q (HownA.out.lt q hq).2
      clear hcall hb2 q0 q1 q2 q3 q4 q5 q6 q7 HA Hbx HownA Hown
      cases hwk : wish k m
      · have hs2 := Hsn.out
        rw [hwk] at hs2
        have Hs2 := Lib.hid hs2
        have hownB := hown2.alloc (.cells m.cells.toArray 51)
        have hnl := news_last w2 m.cells 51
        have hkl2 : (keepL wish 0 (l.take k)).length ≤ k := by have := keepL_len wish (l.take k) 0; rw [List.length_take] at this; omega
        have hml : (keepL wish 0 (l.take k)).length + 1 ≤ maxLen := by unfold maxLen; omega
        have hbs : w.heap.size ≤ (w2.alloc (.cells m.cells.toArray 51)).heap.size := by have := hbw.size; simp; omega
        have h1c := one_mcells m
        have HB := Lib.hid hownB
        have HN := Lib.hid hnl
        have HBW := Lib.hid hbw
        clear hs2 Hsn hwk hownB hnl hown2 hbw
        go_wp2_with (refine wpList_append_lies _ rfl (.tmp 24) (.tmp 26) 41 rfl w.heap.size 51 i0 _ 8 72 Tryd.underlying41 Hi.out Hz.out Hz1.out Hz2.out rfl (by decide) u5 (keepL wish 0 (l.take k)).length (mrows (keepL wish 0 (l.take k))) rfl HB.out ⟨w2.heap.size, 0, none⟩ 1 1 m.cells rfl rfl HN.out h1c (by decide) hml (by omega) hbs _ rfl ?_)
        intro g2 capn w3 hown hgrow hat hlt3
        have hb3 : Below w.heap.size w w3 := HBW.out.trans ⟨hgrow.os, hgrow.tape, hgrow.output, by have := hgrow.size; simp at this; omega, fun q hq => (hgrow.block q (by have := HBW.out.size; simp; omega) (fun e => by have := (HB.out.lt q e.symm).1; omega)).trans (Below.heap_alloc _ _ _ (by have := HBW.out.size; omega))⟩
        have hown4 : w3.ownsRow w.heap.size 51 8 (.slice (some ⟨g2, 0, none⟩) ((keepL wish 0 (l.take k)).length + 1) capn) (keepL wish 0 (l.take (k + 1))).length (mrows (keepL wish 0 (l.take (k + 1)))) := by
          rw [Hs2.out]
          simp only [Bool.false_eq_true, if_false, List.length_append, List.length_singleton, mrows_snoc]
          exact hown
        have H4 := Lib.hid hown4
        clear hown hgrow hat hown4 h1c
        go_wp2_with fail
        go_roundw
        case rel => exact ⟨k + 1, by omega, by go_num, hb3, H4.out⟩
        case measure => simp [intOf]; omega
      · have hs2 := Hsn.out
        rw [hwk] at hs2
        simp only [if_true, List.append_nil] at hs2
        have hown4 : w2.ownsRow w.heap.size 51 8 u5 (keepL wish 0 (l.take (k + 1))).length (mrows (keepL wish 0 (l.take (k + 1)))) := by rw [hs2]; exact hown2
        have H4 := Lib.hid hown4
        clear hs2 Hsn hwk hown4 hown2
        go_wp2_with fail
        go_roundw
        case rel => exact ⟨k + 1, by omega, by go_num, hbw, H4.out⟩
        case measure => simp [intOf]; omega
    · have ek : l.take k = l := List.take_of_length_le (by omega)
      rw [ek] at hown
      have hlen := keepL_len wish l 0
      obtain ⟨a5, c5, rfl⟩ : ∃ a c, u5 = .slice a (keepL wish 0 l).length c := by
        rcases ownsRow_form hown with ⟨h0, h1⟩ | ⟨g5, c5, h0, _⟩
        · exact ⟨none, 0, by rw [h0, h1.1]⟩
        · exact ⟨_, _, h0⟩
      have c0 : wr.cell? ⟨b, 0, none⟩ = some (.slice a l.length cap) := (World.cell?_of_block (a := ⟨b, 0, none⟩) (hb.block b hbl)).trans hc0
      have f0 : wr.frozen? ⟨b, 0, none⟩ = false := (World.frozen?_of_block (a := ⟨b, 0, none⟩) (hb.block b hbl)).trans hfr
      have hne : (Value.slice a5 (keepL wish 0 l).length c5).ownBlock ≠ some b := fun e => by have := (hown.lt b e).1; omega
      have hT : Turned w b (.slice a l.length cap) (keepL wish 0 l) (wr.setCell ⟨b, 0, none⟩ (.slice a5 (keepL wish 0 l).length c5)) := by
        refine ⟨_, (Hh.out.below hb).told (w1 := wr) rfl (ownsRow_base hown fun k hk => Nat.zero_le _) hne (fun m hm => Hh.out.fits m (keepL_mem wish l 0 m hm)), (Moves.of_below hb).setCell _ _ (.inl (.inl rfl)), fun q hq => ?_, fun o ho => ?_⟩
        · rcases hq with rfl | hq
          · exact .inl (.inl rfl)
          · exact .inr (hown.lt q hq).1
        · exact (World.cell?_setCell_other _ _ _ _ (by simp <;> exact fun e => ho e.symm)).trans (World.cell?_of_block (a := ⟨b, o, none⟩) (hb.block b hbl))
      have HT := Lib.hid hT
      clear ek hown hT hne hb hc0 hfr
      go_wp2_with fail
      go_ret
      exact ⟨rfl, HT.out⟩
end
end Go.Proofs.YtkbncbkmaakpkaaDoor
