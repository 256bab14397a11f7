/- A bag and the reference's bag in a law: they lie apart, in blocks from B on; what is kept stays. -/
import Derived.Test.YtibpkdaiaoccjaaBagS
namespace Go.Proofs.Ytibpkdaiaoccjaa
open Go.RowKit
/-- What a law keeps: below B all is as in w0; the blocks of K are as in wk. -/
structure Frame where
  B : Nat
  w0 : World
  K : Nat → Prop
  wk : World
def Frame.holds (F : Frame) (w : World) : Prop := Below F.B F.w0 w ∧ ∀ k, F.K k → k < w.heap.size ∧ w.heap[k]? = F.wk.heap[k]?
theorem Frame.holds.moves {F : Frame} {G : Nat → Prop} {w w' : World} (h : F.holds w) (hm : Moves G w w') (hB : F.B ≤ w.heap.size) (hG : ∀ k, G k → F.B ≤ k ∧ ¬ F.K k) : F.holds w' := by
  refine ⟨h.1.trans (hm.below hB fun k hk => (hG k hk).1), fun k hk => ⟨Nat.lt_of_lt_of_le (h.2 k hk).1 hm.size, (hm.block k (h.2 k hk).1 fun hg => (hG k hg).2 hk).trans (h.2 k hk).2⟩⟩
theorem Frame.holds.below {F : Frame} {w w' : World} (h : F.holds w) (hb : Below w.heap.size w w') (hB : F.B ≤ w.heap.size) : F.holds w' :=
  h.moves (Moves.of_below (F := fun _ => False) hb) hB fun _ hk => hk.elim
def BB (F : Frame) (w : World) (b c : Nat) (l lr : List Ms) : Prop :=
  ∃ v vr, IsBag w b v l ∧ Has w c vr lr ∧ (∀ k, bfp b v k → F.B ≤ k ∧ ¬ F.K k) ∧ (∀ k, bfp c vr k → F.B ≤ k ∧ ¬ F.K k) ∧ (∀ k, bfp b v k → ¬ bfp c vr k) ∧ F.holds w
theorem IsBag.keeps {w w' : World} {b : Nat} {v : Value} {l : List Ms} (h : IsBag w b v l) (hk : ∀ k, bfp b v k → w'.heap[k]? = w.heap[k]?) : IsBag w' b v l :=
  ⟨h.has.keeps hk, (World.cell?_of_block (a := ⟨b, 1, none⟩) (hk b (.inl rfl))).trans h.most⟩
section
variable {F : Frame} {w : World} {b c : Nat} {l lr : List Ms}
theorem BB.stepB {v vr : Value} {w' : World} {l' : List Ms} (h1 : IsBag w b v l) (h2 : Has w c vr lr) (f1 : ∀ k, bfp b v k → F.B ≤ k ∧ ¬ F.K k) (f2 : ∀ k, bfp c vr k → F.B ≤ k ∧ ¬ F.K k) (hd : ∀ k, bfp b v k → ¬ bfp c vr k) (hb : F.holds w)
    (hT : Turned w b v l' w') : BB F w' b c l' lr := by
  obtain ⟨v', hh, hm, hf, ho⟩ := hT
  have hB : F.B ≤ w.heap.size := Nat.le_trans (f1 b (.inl rfl)).1 (Nat.le_of_lt (h1.has.lt b (.inl rfl)))
  refine ⟨v', vr, ⟨hh, (ho 1 (by decide)).trans h1.most⟩, h2.moves hm (fun k hk hp => hd k hp hk), fun k hk => ?_, f2, fun k hk hr => ?_, hb.moves hm hB f1⟩
  · rcases hf k hk with h | h
    · exact f1 k h
    · exact ⟨by omega, fun hK => by have := (hb.2 k hK).1; omega⟩
  · rcases hf k hk with h | h
    · exact hd k h hr
    · have := h2.lt k hr; omega
theorem BB.stepR {v vr : Value} {w' : World} {l' : List Ms} (h1 : IsBag w b v l) (_h2 : Has w c vr lr) (f1 : ∀ k, bfp b v k → F.B ≤ k ∧ ¬ F.K k) (f2 : ∀ k, bfp c vr k → F.B ≤ k ∧ ¬ F.K k) (hd : ∀ k, bfp b v k → ¬ bfp c vr k) (hb : F.holds w)
    (hT : Turned w c vr l' w') : BB F w' b c l l' := by
  obtain ⟨v', hh, hm, hf, _⟩ := hT
  have hB : F.B ≤ w.heap.size := Nat.le_trans (f1 b (.inl rfl)).1 (Nat.le_of_lt (h1.has.lt b (.inl rfl)))
  refine ⟨v, v', h1.keeps fun k hk => hm.block k (h1.has.lt k hk) fun hp => hd k hk hp, hh, f1, fun k hk => ?_, fun k hk hr => ?_, hb.moves hm hB f2⟩
  · rcases hf k hk with h | h
    · exact f2 k h
    · exact ⟨by omega, fun hK => by have := (hb.2 k hK).1; omega⟩
  · rcases hf k hr with h | h
    · exact hd k hk h
    · have := h1.has.lt k hk; omega
theorem BB.hB (h : BB F w b c l lr) : F.B ≤ w.heap.size := by
  obtain ⟨v, vr, h1, h2, f1, f2, hd, hb⟩ := h
  exact Nat.le_trans (f1 b (.inl rfl)).1 (Nat.le_of_lt (h1.has.lt b (.inl rfl)))
theorem BB.quiet {w' : World} (h : BB F w b c l lr) (hbw : Below w.heap.size w w') : BB F w' b c l lr := by
  have hB := h.hB
  obtain ⟨v, vr, h1, h2, f1, f2, hd, hb⟩ := h
  exact ⟨v, vr, h1.below hbw, h2.below hbw, f1, f2, hd, hb.below hbw hB⟩
theorem BB.drewN (h : BB F w b c l lr) (n : Nat) : BB F (w.drewN n) b c l lr := h.quiet ⟨rfl, rfl, rfl, Nat.le_refl _, fun _ _ => rfl⟩
theorem BB.drew (h : BB F w b c l lr) : BB F w.drew b c l lr := h.quiet ⟨rfl, rfl, rfl, Nat.le_refl _, fun _ _ => rfl⟩
theorem BB.below (h : BB F w b c l lr) : Below F.B F.w0 w := by
  obtain ⟨_, _, _, _, _, _, _, hb⟩ := h
  exact hb.1
theorem BB.kept (h : BB F w b c l lr) {k : Nat} (hk : F.K k) : w.heap[k]? = F.wk.heap[k]? := by
  obtain ⟨_, _, _, _, _, _, _, hb⟩ := h
  exact (hb.2 k hk).2
theorem BB.ref (h : BB F w b c l lr) : ∃ vr, w.cell? ⟨c, 0, none⟩ = some vr ∧ w.ownsRow 0 23 8 vr lr.length (mrows lr) := by
  obtain ⟨_, vr, _, h2, _⟩ := h
  exact ⟨vr, h2.c0, h2.own⟩
/-- What is told anew is kept blocks alone; what is kept from here on is named anew. -/
theorem BB.moved {G K' : Nat → Prop} {w' : World} (h : BB F w b c l lr) (hm : Moves G w w') (hG : ∀ k, G k → F.K k ∧ F.B ≤ k) (hK : ∀ k, K' k → k < w'.heap.size ∧ (F.K k ∨ w.heap.size ≤ k)) : BB { F with K := K', wk := w' } w' b c l lr := by
  have hB := h.hB
  obtain ⟨v, vr, h1, h2, f1, f2, hd, hb⟩ := h
  have hk : ∀ j, j < w.heap.size → F.B ≤ j ∧ ¬ F.K j → F.B ≤ j ∧ ¬ K' j := fun j hl hj => ⟨hj.1, fun hKj => by
    rcases (hK j hKj).2 with h3 | h3
    · exact hj.2 h3
    · omega⟩
  exact ⟨v, vr, h1.keeps fun k hp => hm.block k (h1.has.lt k hp) fun hg => (f1 k hp).2 (hG k hg).1, h2.moves hm fun k hp hg => (f2 k hp).2 (hG k hg).1, fun k hp => hk k (h1.has.lt k hp) (f1 k hp), fun k hp => hk k (h2.lt k hp) (f2 k hp), hd,
    hb.1.trans (hm.below hB fun k hg => (hG k hg).2), fun k hKk => ⟨(hK k hKk).1, rfl⟩⟩
theorem BB.send (h : BB F w b c l lr) (hl : l.length ≤ 64) (m : Ms) (hm : m.fits) :
    Calls Try.prog 10 #[.pointer (some ⟨b, 0, none⟩), m.val] w fun e w' => e = .returned (.int .i64 (sendE l m)) ∧ BB F w' b c (sendS l m) lr := by
  obtain ⟨v, vr, h1, h2, f1, f2, hd, hb⟩ := h
  exact (send_any h1 hl m hm).mono fun e w' ⟨he, hT⟩ => ⟨he, .stepB h1 h2 f1 f2 hd hb hT⟩
theorem BB.rsend (h : BB F w b c l lr) (hl : lr.length ≤ 64) (m : Ms) (hm : m.fits) :
    Calls Try.prog 11 #[.pointer (some ⟨c, 0, none⟩), m.val] w fun e w' => e = .returned (.int .i64 (sendE lr m)) ∧ BB F w' b c l (sendS lr m) := by
  obtain ⟨v, vr, h1, h2, f1, f2, hd, hb⟩ := h
  exact (rsend_any h2 hl m hm).mono fun e w' ⟨he, hT⟩ => ⟨he, .stepR h1 h2 f1 f2 hd hb hT⟩
theorem BB.twice (h : BB F w b c l lr) (hl : l.length ≤ 64) (i : Int) :
    Calls Try.prog 13 #[.pointer (some ⟨b, 0, none⟩), .int .i64 i] w fun e w' => e = .returned (.int .i64 (twiceE l i)) ∧ BB F w' b c (twiceL l i) lr := by
  obtain ⟨v, vr, h1, h2, f1, f2, hd, hb⟩ := h
  exact (twice_any h1 hl i).mono fun e w' ⟨he, hT⟩ => ⟨he, .stepB h1 h2 f1 f2 hd hb hT⟩
theorem BB.rtwice (h : BB F w b c l lr) (hl : lr.length ≤ 64) (hck : ∀ m ∈ lr, m.check = 0) (i : Int) :
    Calls Try.prog 15 #[.pointer (some ⟨c, 0, none⟩), .int .i64 i] w fun e w' => e = .returned (.int .i64 (twiceE lr i)) ∧ BB F w' b c l (twiceL lr i) := by
  obtain ⟨v, vr, h1, h2, f1, f2, hd, hb⟩ := h
  exact (rtwice_any h2 hl hck i).mono fun e w' ⟨he, hT⟩ => ⟨he, .stepR h1 h2 f1 f2 hd hb hT⟩
theorem BB.take (h : BB F w b c l lr) (hl : l.length ≤ 64) (i : Int) :
    Calls Try.prog 14 #[.pointer (some ⟨b, 0, none⟩), .int .i64 i] w fun e w' => e = .returned (.tuple #[(atM l i).val, .int .i64 (if atB l i then 0 else 3)]) ∧ BB F w' b c (takeL l i) lr := by
  obtain ⟨v, vr, h1, h2, f1, f2, hd, hb⟩ := h
  exact (take_any h1 hl i).mono fun e w' ⟨he, hT⟩ => ⟨he, .stepB h1 h2 f1 f2 hd hb hT⟩
theorem BB.list (h : BB F w b c l lr) (hl : l.length ≤ 1000) :
    Calls Try.prog 12 #[.pointer (some ⟨b, 0, none⟩)] w fun e w' => ∃ v', e = .returned v' ∧ w'.ownsRow w.heap.size 23 8 v' l.length (mrows l) ∧ BB F w' b c l lr ∧ Below w.heap.size w w' := by
  have h0 := h
  obtain ⟨v, vr, h1, h2, f1, f2, hd, hb⟩ := h
  exact (list_any h1.has hl).mono fun e w' ⟨v', he, h3, h4⟩ => ⟨v', he, h3, h0.quiet h4, h4⟩
end
/-- New().Take(0) of another bag: there is none, and only blocks are made. -/
theorem newtake_any {w : World} (b0 : Nat) (h : IsBag w b0 (.slice none 0 0) []) : Calls Try.prog 14 #[.pointer (some ⟨b0, 0, none⟩), .int .i64 0] w fun e w' => e = .returned (.tuple #[Ms.zero.val, .int .i64 3]) ∧ Turned w b0 (.slice none 0 0) [] w' :=
  (take_any h (Nat.zero_le _) 0).mono fun _ _ ⟨he, hT⟩ => ⟨he, hT⟩
end Go.Proofs.Ytibpkdaiaoccjaa
