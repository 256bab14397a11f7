/- The reference's has, Send. -/
import Derived.Test.YtibpkdaiaoccjaaBagE
namespace Go.Proofs.Ytibpkdaiaoccjaa
open Go.RowKit
/-- The row is told anew: a row that the call has made. -/
theorem Has.anew {w w3 : World} {b : Nat} {v v' : Value} {l l' : List Ms} (h : Has w b v l) (hb : Below w.heap.size w w3) (ho : w3.ownsRow 0 23 8 v' l'.length (mrows l')) (hl : ∀ k, v'.ownBlock = some k → w.heap.size ≤ k) (hf : ∀ m ∈ l', m.fits) :
    Turned w b v l' (w3.setCell ⟨b, 0, none⟩ v') := by
  have hbl := h.lt b (.inl rfl)
  refine ⟨v', (h.below hb).told (w1 := w3) rfl ho (fun e => by have := hl b e; omega) hf, (Moves.of_below hb).setCell _ _ (.inl (.inl rfl)), fun k hk => ?_, fun o ho0 => ?_⟩
  · rcases hk with rfl | hk
    · exact .inl (.inl rfl)
    · exact .inr (hl k hk)
  · exact (World.cell?_setCell_other _ _ _ _ (by simp <;> exact fun e => ho0 e.symm)).trans (World.cell?_of_block (a := ⟨b, o, none⟩) (hb.block b hbl))
section
variable {w : World} {b : Nat} {v : Value} {l : List Ms}
set_option maxRecDepth 100000 in
theorem rhas_any (h : Has w b v l) (i : Int) : Calls Try.prog 33 #[.pointer (some ⟨b, 0, none⟩), .int .i64 i] w fun e w' => e = .returned (.bool (atB l i)) ∧ w = w' := by
  have c0 := h.c0
  obtain ⟨a, cap, rfl⟩ := h.lens
  by_cases h0 : 0 ≤ i
  · by_cases h1 : i < (l.length : Int)
    · have e : atB l i = true := by rw [atB, decide_eq_true h0, decide_eq_true h1]; rfl
      rw [e]
      clear e
      go_enter Try.func33, Try.ntmps33
      go_wp2_with fail
      go_ret
      exact ⟨rfl, rfl⟩
    · have e : atB l i = false := by rw [atB, decide_eq_false h1, Bool.and_false]
      rw [e]
      clear e
      go_enter Try.func33, Try.ntmps33
      go_wp2_with fail
      go_ret
      exact ⟨rfl, rfl⟩
  · have e : atB l i = false := by rw [atB, decide_eq_false h0, Bool.false_and]
    rw [e]
    clear e
    go_enter Try.func33, Try.ntmps33
    go_wp2_with fail
    go_ret
    exact ⟨rfl, rfl⟩
set_option maxRecDepth 100000 in
set_option maxHeartbeats 2000000 in
theorem rsend_any (h : Has w b v l) (hl : l.length ≤ 64) (m : Ms) (hm : m.fits) :
    Calls Try.prog 11 #[.pointer (some ⟨b, 0, none⟩), m.val] w fun e w' => e = .returned (.int .i64 (sendE l m)) ∧ Turned w b v (sendS l m) w' := by
  have hbA : Below w.heap.size w (w.alloc (.cells m.cells.toArray 23)) := (Below.refl _ _).alloc (Nat.le_refl _) _
  have hbxA := Boxed.made w m 23
  have HbA := Lib.hid hbA
  have HbxA := Lib.hid hbxA
  have hck := rcheck_any m hm (w := w.alloc (.cells m.cells.toArray 23))
  clear hbA hbxA
  by_cases hc : m.check = 0
  · have e1 : sendE l m = if l.length < 64 then 0 else 2 := if_pos hc
    have e2 : sendS l m = if l.length < 64 then l ++ [m] else l := by simp [sendS, hc]
    rw [e1, e2]
    rw [hc] at hck
    clear e1 e2 hc
    obtain ⟨i0, hi0, hz0, hz1, hz2⟩ := info_parts Try.infoMsg
    have Hi := Lib.hid hi0
    have Hz := Lib.hid hz0
    have Hz1 := Lib.hid hz1
    have Hz2 := Lib.hid hz2
    clear hi0 hz0 hz1 hz2
    by_cases hlt : l.length < 64
    · have hi1 : (l.length : Int) < 64 := by omega
      go_enter Try.func11, Try.ntmps11
      unfold Ms.val
      go_wp2_with fail
      refine hck.mono ?_
      rintro e w1 ⟨rfl, hb1⟩
      have hbx := HbxA.out.below hb1
      have hbb : Below w.heap.size w w1 := HbA.out.trans (hb1.mono (by simp))
      have h1 := h.below hbb
      obtain ⟨a, cap, rfl⟩ := h.lens
      have c0 := h1.c0
      have hcA : (w1.alloc (.cells #[] 23)).cell? ⟨b, 0, none⟩ = some (.slice a l.length cap) := (h1.alloc _).c0
      have hwo := (h1.alloc (.cells #[] 23)).own
      have hown0 : (w1.alloc (.cells #[] 23)).ownsRow 0 23 8 (.slice (some ⟨w1.heap.size, 0, none⟩) 0 0) 0 [] := World.ownsRow_lit (base := 0) (size := 8) (e := 23) w1 #[] 0 (Nat.zero_le _) (by unfold maxLen; omega) rfl
      have hml : 0 + l.length ≤ maxLen := by unfold maxLen; omega
      have Hbx := Lib.hid hbx
      have H1 := Lib.hid h1
      have Hbb := Lib.hid hbb
      clear hck hb1 hbx h1 hbb
      go_wp2_with (refine wpList_append_rows rfl (.tmp 22) (.tmp 26) 27 rfl 0 23 i0 _ 8 72 Try.underlying27 Hi.out Hz.out Hz1.out Hz2.out rfl (by decide) _ 0 [] rfl hown0 (.slice a l.length cap) 0 l.length (mrows l) rfl hwo (one_mrows _) hml (by omega) (Nat.zero_le _) ?_)
      intro l2 w2 hown1 hgrow hat
      have hb2 : Below w1.heap.size w1 w2 := ⟨hgrow.os, hgrow.tape, hgrow.output, by have := hgrow.size; simp at this; omega, fun k hk => (hgrow.block k (by simp; omega) (by simp only [Value.ownBlock, ne_eq, Option.some.injEq]; omega)).trans (Below.heap_alloc _ _ _ hk)⟩
      have hl2 : ∀ k, l2.ownBlock = some k → w1.heap.size ≤ k := by
        intro k hk
        rcases hat with h1 | h1 <;> rw [h1] at hk <;> simp [Value.ownBlock] at hk <;> omega
      obtain ⟨q0, q1, q2, q3, q4, q5, q6, q7⟩ := (Hbx.out.below hb2).all
      have h2 := H1.out.below hb2
      have hownB : (w2.alloc (.cells m.cells.toArray 23)).ownsRow 0 23 8 l2 l.length (mrows l) := by
        have := hown1.alloc (.cells m.cells.toArray 23)
        simpa using this
      have hnl := news_last w2 m.cells 23
      have h1c := one_mcells m
      have hml2 : l.length + 1 ≤ maxLen := by unfold maxLen; omega
      have HB := Lib.hid hownB
      have HN := Lib.hid hnl
      have H2 := Lib.hid h2
      have Hb2 := Lib.hid hb2
      have Hl2 := Lib.hid hl2
      clear hown1 hgrow hat hb2 hl2 hownB hnl hwo hown0 hml h2 c0 hcA
      go_wp2_with (refine wpList_append_lies _ rfl (.tmp 29) (.tmp 31) 27 rfl 0 23 i0 _ 8 72 Try.underlying27 Hi.out Hz.out Hz1.out Hz2.out rfl (by decide) l2 l.length (mrows l) rfl HB.out ⟨w2.heap.size, 0, none⟩ 1 1 m.cells rfl rfl HN.out h1c (by decide) hml2 (by omega) (Nat.zero_le _) _ rfl ?_)
      intro g capn w3 hown hgrow hat hlt3
      have hs12 : w.heap.size ≤ w1.heap.size := Hbb.out.size
      have hs23 : w1.heap.size ≤ w2.heap.size := Hb2.out.size
      have hb3 : Below w.heap.size w w3 := (Hbb.out.trans (Hb2.out.mono hs12)).trans ⟨hgrow.os, hgrow.tape, hgrow.output, by have := hgrow.size; simp at this; omega, fun k hk => (hgrow.block k (by simp; omega) (fun e => by have := Hl2.out k e.symm; omega)).trans (Below.heap_alloc _ _ _ (by omega))⟩
      have hT : Turned w b (.slice a l.length cap) (l ++ [m]) (w3.setCell ⟨b, 0, none⟩ (.slice (some ⟨g, 0, none⟩) (l.length + 1) capn)) := by
        refine h.anew hb3 ?_ (fun k hk => ?_) (fun x hx => ?_)
        · rw [List.length_append, mrows_snoc]; exact hown
        · simp only [Value.ownBlock, Option.some.injEq] at hk
          subst hk
          rcases hat with h1 | h1
          · have := Hl2.out g h1; omega
          · omega
        · rcases List.mem_append.1 hx with h1 | h1
          · exact h.fits x h1
          · simp at h1; rw [h1]; exact hm
      have h3 := h.below hb3
      have c3 := h3.c0
      have f3 := h3.fro 0
      have HT := Lib.hid hT
      clear hown hgrow hat hT h3 q0 q1 q2 q3 q4 q5 q6 q7
      go_wp2_with fail
      go_ret
      exact ⟨rfl, HT.out⟩
    · have hi1 : ¬ (l.length : Int) < 64 := by omega
      go_enter Try.func11, Try.ntmps11
      unfold Ms.val
      go_wp2_with fail
      refine hck.mono ?_
      rintro e w1 ⟨rfl, hb1⟩
      have hbb : Below w.heap.size w w1 := HbA.out.trans (hb1.mono (by simp))
      have c0 := (h.below hbb).c0
      obtain ⟨a, cap, rfl⟩ := h.lens
      have HQ := Lib.hid (Turned.quiet h hbb)
      clear hck hb1
      go_wp2_with fail
      go_ret
      exact ⟨rfl, HQ.out⟩
  · have e1 : sendE l m = m.check := if_neg hc
    have e2 : sendS l m = l := by simp [sendS, hc]
    rw [e1, e2]
    have hne : (m.check == 0) = false := by simpa using hc
    clear e1 e2 hc
    generalize m.check = c at hck hne ⊢
    go_enter Try.func11, Try.ntmps11
    unfold Ms.val
    go_wp2_with fail
    refine hck.mono ?_
    rintro e w1 ⟨rfl, hb1⟩
    have hbb : Below w.heap.size w w1 := HbA.out.trans (hb1.mono (by simp))
    clear hck
    go_wp2_with fail
    go_ret
    exact ⟨rfl, .quiet h hbb⟩
end
end Go.Proofs.Ytibpkdaiaoccjaa
