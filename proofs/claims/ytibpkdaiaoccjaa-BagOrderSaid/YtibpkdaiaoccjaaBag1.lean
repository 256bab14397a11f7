/- The bag alone in a law: what is kept stays. -/
import Derived.Test.YtibpkdaiaoccjaaFull
import Derived.Test.YtibpkdaiaoccjaaBagF
namespace Go.Proofs.Ytibpkdaiaoccjaa
open Go.RowKit
theorem good.take {l : List Ms} (h : good l) (i : Int) : good (takeL l i) := by
  unfold takeL
  split
  · rename_i hc
    refine ⟨by have := (atM_mem hc).2; have := h.1; omega, fun x hx => h.2 x (List.mem_of_mem_eraseIdx hx)⟩
  · exact h
theorem good.late {l : List Ms} (h : good l) (i : Int) : good (lateL l i) := by
  unfold lateL
  split
  · rename_i hc
    refine ⟨by have := (atM_mem hc).2; have := h.1; simp; omega, fun x hx => ?_⟩
    rcases List.mem_append.1 hx with h1 | h1
    · exact h.2 x (List.mem_of_mem_eraseIdx h1)
    · simp at h1; rw [h1]; exact h.2 _ (atM_mem hc).1
  · exact h
theorem good.keep {l : List Ms} (h : good l) (wish : Nat → Ms → Bool) : good (keepL wish 0 l) :=
  ⟨Nat.le_trans (keepL_len wish l 0) h.1, fun x hx => h.2 x (keepL_mem wish l 0 x hx)⟩
theorem good.nil : good [] := ⟨Nat.zero_le _, fun x hx => by simp at hx⟩
/-- The bag, and what the law keeps. -/
def B1 (F : Frame) (w : World) (b : Nat) (l : List Ms) : Prop :=
  ∃ v, IsBag w b v l ∧ (∀ k, bfp b v k → F.B ≤ k ∧ ¬ F.K k) ∧ F.holds w
section
variable {F : Frame} {w : World} {b : Nat} {l : List Ms}
theorem B1.step {v : Value} {w' : World} {l' : List Ms} (h1 : IsBag w b v l) (f1 : ∀ k, bfp b v k → F.B ≤ k ∧ ¬ F.K k) (hb : F.holds w) (hT : Turned w b v l' w') : B1 F w' b l' := by
  obtain ⟨v', hh, hm, hf, ho⟩ := hT
  have hB : F.B ≤ w.heap.size := Nat.le_trans (f1 b (.inl rfl)).1 (Nat.le_of_lt (h1.has.lt b (.inl rfl)))
  refine ⟨v', ⟨hh, (ho 1 (by decide)).trans h1.most⟩, fun k hk => ?_, hb.moves hm hB f1⟩
  rcases hf k hk with h | h
  · exact f1 k h
  · exact ⟨by omega, fun hK => by have := (hb.2 k hK).1; omega⟩
theorem B1.hB (h : B1 F w b l) : F.B ≤ w.heap.size := by
  obtain ⟨v, h1, f1, hb⟩ := h
  exact Nat.le_trans (f1 b (.inl rfl)).1 (Nat.le_of_lt (h1.has.lt b (.inl rfl)))
theorem B1.quiet {w' : World} (h : B1 F w b l) (hbw : Below w.heap.size w w') : B1 F w' b l := by
  have hB := h.hB
  obtain ⟨v, h1, f1, hb⟩ := h
  exact ⟨v, h1.below hbw, f1, hb.below hbw hB⟩
theorem B1.drewN (h : B1 F w b l) (n : Nat) : B1 F (w.drewN n) b l := h.quiet ⟨rfl, rfl, rfl, Nat.le_refl _, fun _ _ => rfl⟩
theorem B1.drew (h : B1 F w b l) : B1 F w.drew b l := h.quiet ⟨rfl, rfl, rfl, Nat.le_refl _, fun _ _ => rfl⟩
theorem B1.alloc (h : B1 F w b l) (o : Obj) : B1 F (w.alloc o) b l := h.quiet ((Below.refl _ _).alloc (Nat.le_refl _) o)
theorem B1.below (h : B1 F w b l) : Below F.B F.w0 w := by
  obtain ⟨_, _, _, hb⟩ := h
  exact hb.1
theorem B1.kept (h : B1 F w b l) {k : Nat} (hk : F.K k) : w.heap[k]? = F.wk.heap[k]? := by
  obtain ⟨_, _, _, hb⟩ := h
  exact (hb.2 k hk).2
/-- A row that is kept. -/
theorem B1.row {base : Nat} {e : TypeId} {size n : Nat} {u : Value} {xs : List Value} (h : B1 F w b l) (ho : F.wk.ownsRow base e size u n xs) (hK : ∀ k, u.ownBlock = some k → F.K k) : w.ownsRow base e size u n xs :=
  ownsRow_keep ho fun k hk => h.kept (hK k hk)
/-- What is kept from here on is named anew. -/
theorem B1.anew {K' : Nat → Prop} (h : B1 F w b l) (hK : ∀ k, K' k → k < w.heap.size ∧ F.K k) : B1 { F with K := K', wk := w } w b l := by
  obtain ⟨v, h1, f1, hb⟩ := h
  exact ⟨v, h1, fun k hk => ⟨(f1 k hk).1, fun hk' => (f1 k hk).2 (hK k hk').2⟩, hb.1, fun k hk => ⟨(hK k hk).1, rfl⟩⟩
/-- Behind what only made blocks, these may be kept too. -/
theorem B1.more {K' : Nat → Prop} {w' : World} (h : B1 F w b l) (hbw : Below w.heap.size w w') (hK : ∀ k, K' k → k < w'.heap.size ∧ (F.K k ∨ w.heap.size ≤ k)) : B1 { F with K := K', wk := w' } w' b l := by
  have hB := h.hB
  obtain ⟨v, h1, f1, hb⟩ := h
  refine ⟨v, h1.below hbw, fun k hk => ⟨(f1 k hk).1, fun hk' => ?_⟩, (hb.below hbw hB).1, fun k hk => ⟨(hK k hk).1, rfl⟩⟩
  rcases (hK k hk').2 with h2 | h2
  · exact (f1 k hk).2 h2
  · have := h1.has.lt k hk; omega
theorem B1.made {w0 w w1 : World} {B : Nat} {K : Nat → Prop} (hB : B ≤ w.heap.size) (hb0 : Below B w0 w) (hK : ∀ k, K k → k < w.heap.size) (h : IsBag w1 w.heap.size (.slice none 0 0) []) (hb : Below w.heap.size w w1) :
    B1 ⟨B, w0, K, w⟩ w1 w.heap.size [] := by
  have hnil : ∀ (n k : Nat), bfp n (.slice none 0 0) k → k = n := fun n k hk => by
    rcases hk with h | h
    · exact h
    · simp [Value.ownBlock] at h
  refine ⟨.slice none 0 0, h, fun k hk => ?_, hb0.trans (hb.mono hB), fun k hk => ?_⟩
  · have := hnil _ k hk
    subst this
    exact ⟨hB, fun hKk => Nat.lt_irrefl _ (hK _ hKk)⟩
  · have hkw := hK k hk
    exact ⟨Nat.lt_of_lt_of_le hkw hb.size, hb.block k hkw⟩
theorem B1.send (h : B1 F w b l) (hl : l.length ≤ 64) (m : Ms) (hm : m.fits) :
    Calls Try.prog 10 #[.pointer (some ⟨b, 0, none⟩), m.val] w fun e w' => e = .returned (.int .i64 (sendE l m)) ∧ B1 F w' b (sendS l m) := by
  obtain ⟨v, h1, f1, hb⟩ := h
  exact (send_any h1 hl m hm).mono fun e w' ⟨he, hT⟩ => ⟨he, .step h1 f1 hb hT⟩
theorem B1.twice (h : B1 F w b l) (hl : l.length ≤ 64) (i : Int) :
    Calls Try.prog 13 #[.pointer (some ⟨b, 0, none⟩), .int .i64 i] w fun e w' => e = .returned (.int .i64 (twiceE l i)) ∧ B1 F w' b (twiceL l i) := by
  obtain ⟨v, h1, f1, hb⟩ := h
  exact (twice_any h1 hl i).mono fun e w' ⟨he, hT⟩ => ⟨he, .step h1 f1 hb hT⟩
theorem B1.take (h : B1 F w b l) (hl : l.length ≤ 64) (i : Int) :
    Calls Try.prog 14 #[.pointer (some ⟨b, 0, none⟩), .int .i64 i] w fun e w' => e = .returned (.tuple #[(atM l i).val, .int .i64 (if atB l i then 0 else 3)]) ∧ B1 F w' b (takeL l i) := by
  obtain ⟨v, h1, f1, hb⟩ := h
  exact (take_any h1 hl i).mono fun e w' ⟨he, hT⟩ => ⟨he, .step h1 f1 hb hT⟩
theorem B1.drop (h : B1 F w b l) (hl : l.length ≤ 64) (i : Int) :
    Calls Try.prog 22 #[.pointer (some ⟨b, 0, none⟩), .int .i64 i] w fun e w' => e = .returned (.int .i64 (if atB l i then 0 else 3)) ∧ B1 F w' b (takeL l i) := by
  obtain ⟨v, h1, f1, hb⟩ := h
  exact (bdrop_any h1 hl i).mono fun e w' ⟨he, hT⟩ => ⟨he, .step h1 f1 hb hT⟩
theorem B1.late (h : B1 F w b l) (hl : l.length ≤ 64) (i : Int) :
    Calls Try.prog 20 #[.pointer (some ⟨b, 0, none⟩), .int .i64 i] w fun e w' => e = .returned (.int .i64 (if atB l i then 0 else 3)) ∧ B1 F w' b (lateL l i) := by
  obtain ⟨v, h1, f1, hb⟩ := h
  exact (late_any h1 hl i).mono fun e w' ⟨he, hT⟩ => ⟨he, .step h1 f1 hb hT⟩
theorem B1.cut (h : B1 F w b l) (hl : l.length ≤ 64) (z : Int) :
    Calls Try.prog 19 #[.pointer (some ⟨b, 0, none⟩), .int .i64 z] w fun e w' => e = .returned (.int .i64 ((l.length : Int) - ((keepL (wishOf z) 0 l).length : Int))) ∧ B1 F w' b (keepL (wishOf z) 0 l) := by
  obtain ⟨v, h1, f1, hb⟩ := h
  exact (bcut_any h1 hl z).mono fun e w' ⟨he, hT⟩ => ⟨he, .step h1 f1 hb hT⟩
theorem B1.list (h : B1 F w b l) (hl : l.length ≤ 1000) :
    Calls Try.prog 12 #[.pointer (some ⟨b, 0, none⟩)] w fun e w' => ∃ v', e = .returned v' ∧ w'.ownsRow w.heap.size 23 8 v' l.length (mrows l) ∧ B1 F w' b l ∧ Below w.heap.size w w' := by
  have h0 := h
  obtain ⟨v, h1, f1, hb⟩ := h
  exact (list_any h1.has hl).mono fun e w' ⟨v', he, h3, h4⟩ => ⟨v', he, h3, h0.quiet h4, h4⟩
theorem B1.fors (h : B1 F w b l) (hl : l.length ≤ 1000) (z : Int) :
    Calls Try.prog 18 #[.pointer (some ⟨b, 0, none⟩), .int .i64 z] w fun e w' => ∃ v', e = .returned v' ∧ w'.ownsRow w.heap.size 3 1 v' (forI z 0 l).length (icells (forI z 0 l)) ∧ B1 F w' b l ∧ Below w.heap.size w w' := by
  have h0 := h
  obtain ⟨v, h1, f1, hb⟩ := h
  exact (for_any h1.has hl z).mono fun e w' ⟨v', he, h3, h4⟩ => ⟨v', he, h3, h0.quiet h4, h4⟩
end
/-- New().Take(0), as two calls of a law: what they leave. -/
theorem newtake_below {w w1 w2 : World} (hbe : Below w.heap.size w w1) (hT : Turned w1 w.heap.size (.slice none 0 0) [] w2) : Below w.heap.size w w2 := by
  obtain ⟨_, _, m7, _, _⟩ := hT
  refine hbe.trans (m7.below hbe.size fun k hk => ?_)
  rcases hk with h | h
  · omega
  · simp [Value.ownBlock] at h
end Go.Proofs.Ytibpkdaiaoccjaa
