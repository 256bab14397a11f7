/- Both maps in a law, and the row of the ranges that it got. -/
import Derived.Test.YtajbodfdohhhoaaRxE
namespace Go.Proofs.Ytajbodfdohhhoaa
open Go.RowKit
def XF (E : Nat → Prop) (c g : Nat) (hv : Value) (q : Nat) : Prop := q = c ∨ q = g ∨ hv.ownBlock = some q ∨ E q
structure XS (w0 : World) (E : Nat → Prop) (b c g N : Nat) (wr : World) (hv : Value) (LM LR H : List Rg) : Prop where
  row : wr.ownsRow w0.heap.size 27 2 hv H.length (rrows H)
  ms : MS w0 (XF E c g hv) b N wr LM
  rm : RM wr c g N LR
  hc : hv.ownBlock ≠ some c
  hg : hv.ownBlock ≠ some g
  gc : w0.heap.size ≤ c
  gg : w0.heap.size ≤ g
  ec : ¬ E c
  eg : ¬ E g
section
variable {w0 wr w' : World} {E : Nat → Prop} {b c g N : Nat} {hv hv' : Value} {LM LR LM' LR' H H' : List Rg}
theorem XS.rowR (h : XS w0 E b c g N wr hv LM LR H) : RowR wr hv H := ownsRow_base h.row fun _ _ => Nat.zero_le _
theorem XS.more (h : XS w0 E b c g N wr hv LM LR H) (hb : Below wr.heap.size wr w') : XS w0 E b c g N w' hv LM LR H :=
  ⟨ownsRow_keep h.row fun k hk => hb.block k (h.row.lt k hk).2, h.ms.more hb, ⟨h.rm.1.below hb, h.rm.2⟩, h.hc, h.hg, h.gc, h.gg, h.ec, h.eg⟩
theorem XS.turnM (h : XS w0 E b c g N wr hv LM LR H) (hM : MS w0 (XF E c g hv) b N w' LM') (hk : ∀ q, XF E c g hv q → w'.heap[q]? = wr.heap[q]?) : XS w0 E b c g N w' hv LM' LR H :=
  ⟨ownsRow_keep h.row fun k hk' => hk k (.inr (.inr (.inl hk'))), hM, ⟨h.rm.1.keep (hk c (.inl rfl)) (hk g (.inr (.inl rfl))), h.rm.2⟩, h.hc, h.hg, h.gc, h.gg, h.ec, h.eg⟩
theorem XS.turnR (h : XS w0 E b c g N wr hv LM LR H) (hR : RM w' c g N LR') (hm : Moves (fun q => q = g) wr w') : XS w0 E b c g N w' hv LM LR' H := by
  refine ⟨ownsRow_keep h.row fun k hk => hm.block k (h.row.lt k hk).2 (fun e => h.hg (by subst e; exact hk)), ?_, hR, h.hc, h.hg, h.gc, h.gg, h.ec, h.eg⟩
  obtain ⟨v, h1, h2, h3, h4⟩ := h.ms
  exact ⟨v, h1.moves hm (fun k hk e => (h3 k hk).2 (.inr (.inl e))), h2.trans (hm.below h2.size fun k hk => by subst hk; exact h.gg), h3, fun k hk => Nat.lt_of_lt_of_le (h4 k hk) hm.size⟩
theorem XS.grown (h : XS w0 E b c g N wr hv LM LR H) (hgr : wr.grownBy w' hv.ownBlock) (ho : w'.ownsRow w0.heap.size 27 2 hv' H'.length (rrows H')) (hor : hv'.ownBlock = hv.ownBlock ∨ hv'.ownBlock = some wr.heap.size) : XS w0 E b c g N w' hv' LM LR H' := by
  have hcl := h.rm.1.ltc
  have hgl := h.rm.1.ltg
  have hnc : hv'.ownBlock ≠ some c := by
    rcases hor with h5 | h5
    · rw [h5]; exact h.hc
    · rw [h5]; intro e; cases e; omega
  have hng : hv'.ownBlock ≠ some g := by
    rcases hor with h5 | h5
    · rw [h5]; exact h.hg
    · rw [h5]; intro e; cases e; omega
  refine ⟨ho, ?_, ⟨h.rm.1.keep (hgr.block c hcl fun e => h.hc e.symm) (hgr.block g hgl fun e => h.hg e.symm), h.rm.2⟩, hnc, hng, h.gc, h.gg, h.ec, h.eg⟩
  obtain ⟨v, h1, h2, h3, h4⟩ := h.ms
  refine ⟨v, h1.keeps fun k hk => hgr.block k (h1.lt k hk) fun e => (h3 k hk).2 (.inr (.inr (.inl e.symm))), ⟨hgr.os.trans h2.os, hgr.tape.trans h2.tape, hgr.output.trans h2.output, Nat.le_trans h2.size hgr.size, fun k hk => ?_⟩, fun k hk => ⟨(h3 k hk).1, fun e => ?_⟩, fun k hk => ?_⟩
  · exact (hgr.block k (Nat.lt_of_lt_of_le hk h2.size) fun e => by have := (h.row.lt k e.symm).1; omega).trans (h2.block k hk)
  · rcases e with e | e | e | e
    · exact (h3 k hk).2 (.inl e)
    · exact (h3 k hk).2 (.inr (.inl e))
    · rcases hor with h5 | h5
      · exact (h3 k hk).2 (.inr (.inr (.inl (h5 ▸ e))))
      · rw [h5] at e
        obtain rfl : wr.heap.size = k := by cases e; rfl
        have := h1.lt _ hk; omega
    · exact (h3 k hk).2 (.inr (.inr (.inr e)))
  · rcases hk with rfl | rfl | hk | hk
    · exact Nat.lt_of_lt_of_le hcl hgr.size
    · exact Nat.lt_of_lt_of_le hgl hgr.size
    · exact (ho.lt k hk).2
    · exact Nat.lt_of_lt_of_le (h4 k (.inr (.inr (.inr hk)))) hgr.size
/-- Both are made. -/
theorem XS.made {w1 w2 : World} {n : Int} (hN : nOf n = (N : Int)) (hM : MS w0 (fun _ => False) b (nOf n) w1 [⟨0, nOf n⟩]) (hR : RB w2 c g N (fun _ => true)) (hb : Below w1.heap.size w1 w2) (hc : w1.heap.size ≤ c) (hg : w1.heap.size ≤ g) (hs : w1.heap.size ≤ w2.heap.size) :
    XS w0 (fun _ => False) b c g N (w2.alloc (.cells #[] 27)) (.slice (some ⟨w2.heap.size, 0, none⟩) 0 0) [⟨0, (N : Int)⟩] [⟨0, (N : Int)⟩] [] := by
  have hown0 : (w2.alloc (.cells #[] 27)).ownsRow w2.heap.size 27 2 (.slice (some ⟨w2.heap.size, 0, none⟩) 0 0) 0 [] := World.ownsRow_lit (base := w2.heap.size) (size := 2) (e := 27) w2 #[] 0 (Nat.le_refl _) (by unfold maxLen; omega) rfl
  have hb2 : Below w2.heap.size w2 (w2.alloc (.cells #[] 27)) := (Below.refl _ _).alloc (Nat.le_refl _) _
  have h0 := hM.below.size
  have hcl := hR.ltc
  have hgl := hR.ltg
  rw [hN] at hM
  have hn1 := hR.n1
  refine ⟨ownsRow_base hown0 fun k hk => Nat.le_trans (Nat.le_trans h0 hs) (hown0.lt k hk).1, hM.also (hb.trans (hb2.mono hs)) fun q hq => ?_, ⟨(hR.below hb2).same fun j hj => ?_, ?_⟩, ?_, ?_, by omega, by omega, fun h => h, fun h => h⟩
  · rcases hq with rfl | rfl | hq | hq
    · exact ⟨.inr hc, Nat.lt_of_lt_of_le hcl hb2.size⟩
    · exact ⟨.inr hg, Nat.lt_of_lt_of_le hgl hb2.size⟩
    · exact ⟨.inr (Nat.le_trans hs (hown0.lt q hq).1), (hown0.lt q hq).2⟩
    · exact hq.elim
  · symm
    exact isIn_one (L := [⟨0, (N : Int)⟩]) (r := ⟨0, (N : Int)⟩) (by simp) (by show (0 : Int) ≤ j; omega) (by show (j : Int) < N; omega)
  · exact ⟨by show (-1 : Int) < 0; omega, by show (0 : Int) < N; omega, Int.le_refl _, trivial⟩
  · intro e; simp [Value.ownBlock] at e; omega
  · intro e; simp [Value.ownBlock] at e; omega
/-- A call of the script, in its own place. -/
def XO (w0 : World) (u : Nat) (s : Stp) (b c g N : Nat) (wr : World) (hv : Value) (LM LR H : List Rg) : Prop :=
  XS w0 (fun q => q = u) b c g N wr hv LM LR H ∧ u < wr.heap.size ∧ ∀ j x, s.cells[j]? = some x → wr.cell? ⟨u, j, none⟩ = some x
variable {u : Nat} {s : Stp}
theorem XO.made (h : XS w0 (fun _ => False) b c g N wr hv LM LR H) (s : Stp) (T : TypeId) : XO w0 wr.heap.size s b c g N (wr.alloc (.cells s.cells.toArray T)) hv LM LR H := by
  have hb : Below wr.heap.size wr (wr.alloc (.cells s.cells.toArray T)) := (Below.refl _ _).alloc (Nat.le_refl _) _
  have h2 := h.more hb
  refine ⟨⟨h2.row, h.ms.also hb fun q hq => ?_, h2.rm, h.hc, h.hg, h.gc, h.gg, fun e => ?_, fun e => ?_⟩, by simp, fun j x hj => ?_⟩
  · rcases hq with hq | hq | hq | hq
    · exact ⟨.inl (.inl hq), by have := h2.rm.1.ltc; omega⟩
    · exact ⟨.inl (.inr (.inl hq)), by have := h2.rm.1.ltg; omega⟩
    · exact ⟨.inl (.inr (.inr (.inl hq))), (h2.row.lt q hq).2⟩
    · exact ⟨.inr (by omega), by simp; omega⟩
  · have := h.rm.1.ltc; omega
  · have := h.rm.1.ltg; omega
  · rw [World.cell?_alloc_new]
    simpa using hj
theorem XO.less (h : XO w0 u s b c g N wr hv LM LR H) : XS w0 (fun _ => False) b c g N wr hv LM LR H := by
  obtain ⟨h, -, -⟩ := h
  refine ⟨h.row, h.ms.also (Below.refl _ _) fun q hq => ?_, h.rm, h.hc, h.hg, h.gc, h.gg, fun e => e, fun e => e⟩
  rcases hq with hq | hq | hq | hq
  · exact ⟨.inl (.inl hq), h.ms.fl (.inl hq)⟩
  · exact ⟨.inl (.inr (.inl hq)), h.ms.fl (.inr (.inl hq))⟩
  · exact ⟨.inl (.inr (.inr (.inl hq))), h.ms.fl (.inr (.inr (.inl hq)))⟩
  · exact hq.elim
theorem XO.more (h : XO w0 u s b c g N wr hv LM LR H) (hb : Below wr.heap.size wr w') : XO w0 u s b c g N w' hv LM LR H :=
  ⟨h.1.more hb, Nat.lt_of_lt_of_le h.2.1 hb.size, fun j x hj => (World.cell?_of_block (a := ⟨u, j, none⟩) (hb.block u h.2.1)).trans (h.2.2 j x hj)⟩
theorem XO.drew (h : XO w0 u s b c g N wr hv LM LR H) : XO w0 u s b c g N wr.drew hv LM LR H := h.more (Below.refl _ _).drew
theorem XO.turnM (h : XO w0 u s b c g N wr hv LM LR H) (hM : MS w0 (XF (fun q => q = u) c g hv) b N w' LM') (hk : ∀ q, XF (fun q => q = u) c g hv q → w'.heap[q]? = wr.heap[q]?) : XO w0 u s b c g N w' hv LM' LR H :=
  ⟨h.1.turnM hM hk, hM.fl (.inr (.inr (.inr rfl))), fun j x hj => (World.cell?_of_block (a := ⟨u, j, none⟩) (hk u (.inr (.inr (.inr rfl))))).trans (h.2.2 j x hj)⟩
theorem XO.turnR (h : XO w0 u s b c g N wr hv LM LR H) (hR : RM w' c g N LR') (hm : Moves (fun q => q = g) wr w') : XO w0 u s b c g N w' hv LM LR' H :=
  ⟨h.1.turnR hR hm, Nat.lt_of_lt_of_le h.2.1 hm.size, fun j x hj => (World.cell?_of_block (a := ⟨u, j, none⟩) (hm.block u h.2.1 (fun e => h.1.eg e.symm))).trans (h.2.2 j x hj)⟩
theorem XO.take (h : XO w0 u s b c g N wr hv LM LR H) (r : Rg) : Calls Try.prog 14 #[.pointer (some ⟨b, 0, none⟩), r.val] wr fun e w' => e = .returned (.int .i64 (takeE N LM r)) ∧ XO w0 u s b c g N w' hv (takeS N LM r) LR H :=
  (h.1.ms.take r).mono fun _ _ ⟨h1, h2, h3⟩ => ⟨h1, h.turnM h2 h3⟩
theorem XO.give (h : XO w0 u s b c g N wr hv LM LR H) (r : Rg) : Calls Try.prog 11 #[.pointer (some ⟨b, 0, none⟩), r.val] wr fun e w' => e = .returned (.int .i64 (giveE N LM r)) ∧ XO w0 u s b c g N w' hv (giveS N LM r) LR H :=
  (h.1.ms.give r).mono fun _ _ ⟨h1, h2, h3⟩ => ⟨h1, h.turnM h2 h3⟩
theorem XO.alloc (h : XO w0 u s b c g N wr hv LM LR H) (k : Int) : Calls Try.prog 10 #[.pointer (some ⟨b, 0, none⟩), .int .i64 k] wr fun e w' => e = .returned (.tuple #[(allocR k LM).val, .int .i64 (allocE k LM)]) ∧ XO w0 u s b c g N w' hv (allocL k LM) LR H :=
  (h.1.ms.alloc k).mono fun _ _ ⟨h1, h2, h3⟩ => ⟨h1, h.turnM h2 h3⟩
theorem XO.rtake (h : XO w0 u s b c g N wr hv LM LR H) (r : Rg) : Calls Try.prog 21 #[.pointer (some ⟨c, 0, none⟩), r.val] wr fun e w' => e = .returned (.int .i64 (takeE N LR r)) ∧ XO w0 u s b c g N w' hv LM (takeS N LR r) H :=
  (rtake_any h.1.rm r).mono fun _ _ ⟨h1, h2, h3⟩ => ⟨h1, h.turnR h2 h3⟩
theorem XO.rgive (h : XO w0 u s b c g N wr hv LM LR H) (r : Rg) : Calls Try.prog 22 #[.pointer (some ⟨c, 0, none⟩), r.val] wr fun e w' => e = .returned (.int .i64 (giveE N LR r)) ∧ XO w0 u s b c g N w' hv LM (giveS N LR r) H :=
  (rgive_any h.1.rm r).mono fun _ _ ⟨h1, h2, h3⟩ => ⟨h1, h.turnR h2 h3⟩
theorem XO.ralloc (h : XO w0 u s b c g N wr hv LM LR H) (k : Int) : Calls Try.prog 20 #[.pointer (some ⟨c, 0, none⟩), .int .i64 k] wr fun e w' => e = .returned (.tuple #[(allocR k LR).val, .int .i64 (allocE k LR)]) ∧ XO w0 u s b c g N w' hv LM (allocL k LR) H ∧ Moves (fun q => q = g) wr w' :=
  (ralloc_any h.1.rm k).mono fun _ _ ⟨h1, h2, h3⟩ => ⟨h1, h.turnR h2 h3, h3⟩
end
end Go.Proofs.Ytajbodfdohhhoaa
