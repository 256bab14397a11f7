/- A plate and the reference's plate in a law: they lie apart, in blocks from B on; below B nothing has turned. -/
import Derived.Test.YtahmnehfadiegaaPlateLaw
import Derived.Test.YtahmnehfadiegaaRNew
namespace Go.Proofs.Ytahmnehfadiegaa
open Go.RowKit
/-- What a law keeps: below B all is as in w0; the blocks of K are as in wk. -/
structure Frame where
  B : Nat
  w0 : World
  K : Nat → Prop
  wk : World
def Frame.holds (F : Frame) (w : World) : Prop := Below F.B F.w0 w ∧ ∀ k, F.K k → k < w.heap.size ∧ w.heap[k]? = F.wk.heap[k]?
theorem Frame.holds.moves {F : Frame} {G : Nat → Prop} {w w' : World} (h : F.holds w) (hm : Moves G w w') (hB : F.B ≤ w.heap.size) (hG : ∀ k, G k → F.B ≤ k ∧ ¬ F.K k) : F.holds w' := by
  refine ⟨h.1.trans (hm.below hB fun k hk => (hG k hk).1), fun k hk => ⟨Nat.lt_of_lt_of_le (h.2 k hk).1 hm.size, (hm.block k (h.2 k hk).1 fun hg => (hG k hg).2 hk).trans (h.2 k hk).2⟩⟩
theorem Frame.holds.below {F : Frame} {w w' : World} (h : F.holds w) (hb : Below w.heap.size w w') (hB : F.B ≤ w.heap.size) : F.holds w' :=
  h.moves (Moves.of_below (F := fun _ => False) hb) hB fun _ hk => hk.elim
def P2 (F : Frame) (w : World) (b : Nat) (st : PS) (c : Nat) (sr : PS) : Prop :=
  ∃ v vi vw, IsPlate w b v st ∧ IsRef w c vi vw sr ∧ (∀ k, pfp b v k → F.B ≤ k ∧ ¬ F.K k) ∧ (∀ k, rfp c vi vw k → F.B ≤ k ∧ ¬ F.K k) ∧ (∀ k, pfp b v k → ¬ rfp c vi vw k) ∧ F.holds w
section
variable {F : Frame} {w : World} {b : Nat} {st : PS} {c : Nat} {sr : PS}
theorem P2.stepP {v vi vw : Value} {w' : World} {st' : PS} (h1 : IsPlate w b v st) (h2 : IsRef w c vi vw sr) (f1 : ∀ k, pfp b v k → F.B ≤ k ∧ ¬ F.K k) (f2 : ∀ k, rfp c vi vw k → F.B ≤ k ∧ ¬ F.K k) (hd : ∀ k, pfp b v k → ¬ rfp c vi vw k) (hb : F.holds w)
    (hto : ToPlate w b v st' w') : P2 F w' b st' c sr := by
  obtain ⟨v', h', hm, hg⟩ := hto
  have hB : F.B ≤ w.heap.size := Nat.le_trans (f1 b (.inl rfl)).1 (Nat.le_of_lt (h1.lt b (.inl rfl)))
  refine ⟨v', vi, vw, h', h2.moves hm (fun k hk hp => hd k hp hk), fun k hk => ?_, f2, fun k hk hr => ?_, hb.moves hm hB f1⟩
  · rcases hg k hk with h | h
    · exact f1 k h
    · exact ⟨by omega, fun hK => by have := (hb.2 k hK).1; omega⟩
  · rcases hg k hk with h | h
    · exact hd k h hr
    · have := h2.lt k hr; omega
theorem P2.stepR {v vi vw : Value} {w' : World} {sr' : PS} (h1 : IsPlate w b v st) (_h2 : IsRef w c vi vw sr) (f1 : ∀ k, pfp b v k → F.B ≤ k ∧ ¬ F.K k) (f2 : ∀ k, rfp c vi vw k → F.B ≤ k ∧ ¬ F.K k) (hd : ∀ k, pfp b v k → ¬ rfp c vi vw k) (hb : F.holds w)
    (hto : ToRef w c vi vw sr' w') : P2 F w' b st c sr' := by
  obtain ⟨vi', vw', h', hm, hg⟩ := hto
  have hB : F.B ≤ w.heap.size := Nat.le_trans (f1 b (.inl rfl)).1 (Nat.le_of_lt (h1.lt b (.inl rfl)))
  refine ⟨v, vi', vw', h1.moves hm (fun k hk hp => hd k hk hp), h', f1, fun k hk => ?_, fun k hk hr => ?_, hb.moves hm hB f2⟩
  · rcases hg k hk with h | h
    · exact f2 k h
    · exact ⟨by omega, fun hK => by have := (hb.2 k hK).1; omega⟩
  · rcases hg k hr with h | h
    · exact hd k hk h
    · have := h1.lt k hk; omega
theorem P2.hB (h : P2 F w b st c sr) : F.B ≤ w.heap.size := by
  obtain ⟨v, vi, vw, h1, h2, f1, f2, hd, hb⟩ := h
  exact Nat.le_trans (f1 b (.inl rfl)).1 (Nat.le_of_lt (h1.lt b (.inl rfl)))
theorem P2.quiet {w' : World} (h : P2 F w b st c sr) (hbw : Below w.heap.size w w') : P2 F w' b st c sr := by
  have hB := h.hB
  obtain ⟨v, vi, vw, h1, h2, f1, f2, hd, hb⟩ := h
  exact ⟨v, vi, vw, h1.below hbw, h2.below hbw, f1, f2, hd, hb.below hbw hB⟩
theorem P2.drew (h : P2 F w b st c sr) : P2 F w.drew b st c sr := h.quiet ⟨rfl, rfl, rfl, Nat.le_refl _, fun _ _ => rfl⟩
/-- The frame is told anew: other blocks are kept, of those that are there and are no plate's. -/
theorem P2.reframe {K : Nat → Prop} (h : P2 F w b st c sr) (hK : ∀ k, K k → k < w.heap.size ∧ (F.K k ∨ k < F.B)) : P2 { F with K := K, wk := w } w b st c sr := by
  obtain ⟨v, vi, vw, h1, h2, f1, f2, hd, hb⟩ := h
  have hk : ∀ j, F.B ≤ j ∧ ¬ F.K j → F.B ≤ j ∧ ¬ K j := fun j hj => ⟨hj.1, fun hKj => by
    rcases (hK j hKj).2 with h3 | h3
    · exact hj.2 h3
    · omega⟩
  exact ⟨v, vi, vw, h1, h2, fun k hp => hk k (f1 k hp), fun k hp => hk k (f2 k hp), hd, hb.1, fun k hKk => ⟨(hK k hKk).1, rfl⟩⟩
/-- A new block is made, and kept, with those that were. -/
theorem P2.alloc (h : P2 F w b st c sr) (o : Obj) : P2 { F with K := fun k => F.K k ∨ k = w.heap.size, wk := w.alloc o } (w.alloc o) b st c sr := by
  have hB := h.hB
  have hbw : Below w.heap.size w (w.alloc o) := (Below.refl _ _).alloc (Nat.le_refl _) _
  obtain ⟨v, vi, vw, h1, h2, f1, f2, hd, hb⟩ := h
  refine ⟨v, vi, vw, h1.below hbw, h2.below hbw, fun k hp => ⟨(f1 k hp).1, ?_⟩, fun k hp => ⟨(f2 k hp).1, ?_⟩, hd, hb.1.trans (hbw.mono hB), fun k hk => ⟨?_, rfl⟩⟩
  · rintro (h3 | rfl)
    · exact (f1 k hp).2 h3
    · exact Nat.lt_irrefl _ (h1.lt _ hp)
  · rintro (h3 | rfl)
    · exact (f2 k hp).2 h3
    · exact Nat.lt_irrefl _ (h2.lt _ hp)
  · rcases hk with h3 | rfl
    · have := (hb.2 k h3).1
      simp; omega
    · simp
theorem P2.kept (h : P2 F w b st c sr) {k : Nat} (hk : F.K k) : w.heap[k]? = F.wk.heap[k]? := by
  obtain ⟨_, _, _, _, _, _, _, _, hb⟩ := h
  exact (hb.2 k hk).2
theorem P2.keptCell (h : P2 F w b st c sr) {k : Nat} (hk : F.K k) (o : Nat) : w.cell? ⟨k, o, none⟩ = F.wk.cell? ⟨k, o, none⟩ := World.cell?_of_block (a := ⟨k, o, none⟩) (h.kept hk)
theorem P2.below (h : P2 F w b st c sr) : Below F.B F.w0 w := by
  obtain ⟨_, _, _, _, _, _, _, _, hb⟩ := h
  exact hb.1
theorem P2.ok (h : P2 F w b st c sr) : st.ok := by
  obtain ⟨_, _, _, h1, _⟩ := h
  exact h1.ok
theorem P2.okR (h : P2 F w b st c sr) : sr.ok := by
  obtain ⟨_, _, _, _, h1, _⟩ := h
  exact h1.ok
/-- The reference's fields, as the law reads them. -/
theorem P2.gone (h : P2 F w b st c sr) : w.cell? ⟨c, 2, none⟩ = some (.bool sr.off) := by
  obtain ⟨_, _, _, _, h1, _⟩ := h
  exact h1.off
theorem P2.num (h : P2 F w b st c sr) : w.cell? ⟨c, 5, none⟩ = some (.int .i64 (sr.calls : Int)) := by
  obtain ⟨_, _, _, _, h1, _⟩ := h
  exact h1.calls
theorem P2.isLen (h : P2 F w b st c sr) : ∃ a cap, w.cell? ⟨c, 0, none⟩ = some (.slice a sr.is.length cap) := by
  obtain ⟨_, _, _, _, h1, _⟩ := h
  obtain ⟨⟨a, cap, rfl⟩, _⟩ := h1.lens
  exact ⟨a, cap, h1.cvi⟩
theorem P2.isAt (h : P2 F w b st c sr) {i : Nat} {s : List UInt8} (hs : sr.is[i]? = some s) : ∃ g cap, w.cell? ⟨c, 0, none⟩ = some (.slice (some ⟨g, 0, none⟩) sr.is.length cap) ∧ w.cell? ⟨g, i, none⟩ = some (str s) := by
  obtain ⟨_, _, _, _, h1, _⟩ := h
  obtain ⟨g, cap, h2, h3, _⟩ := h1.sector hs
  exact ⟨g, cap, by rw [← h2]; exact h1.cvi, h3⟩
theorem P2.write (h : P2 F w b st c sr) (hn : st.calls < 1000000000) (hwl : st.wait.length < 1000000) (i : Int) (s : ByteArray) (hs : s.size ≤ maxLen) :
    Calls Try.prog 11 #[.pointer (some ⟨b, 0, none⟩), .int .i64 i, .string s] w fun e w' => e = .returned (.int .i64 (st.writeE i s.data.toList)) ∧ P2 F w' b (st.writeS i s.data.toList) c sr := by
  obtain ⟨v, vi, vw, h1, h2, f1, f2, hd, hb⟩ := h
  exact (write_any h1 hn hwl i s hs).mono fun e w' ⟨he, hto⟩ => ⟨he, .stepP h1 h2 f1 f2 hd hb hto⟩
theorem P2.rwrite (h : P2 F w b st c sr) (hn : sr.calls < 1000000000) (hwl : sr.wait.length < 1000000) (i : Int) (s : ByteArray) (hs : s.size ≤ maxLen) :
    Calls Try.prog 18 #[.pointer (some ⟨c, 0, none⟩), .int .i64 i, .string s] w fun e w' => e = .returned (.int .i64 (sr.writeE i s.data.toList)) ∧ P2 F w' b st c (sr.writeS i s.data.toList) := by
  obtain ⟨v, vi, vw, h1, h2, f1, f2, hd, hb⟩ := h
  exact (rwrite_any h2 hn hwl i s hs).mono fun e w' ⟨he, hto⟩ => ⟨he, .stepR h1 h2 f1 f2 hd hb hto⟩
theorem P2.sync (h : P2 F w b st c sr) (hn : st.calls < 1000000000) (hwl : st.wait.length < 1000000000) :
    Calls Try.prog 10 #[.pointer (some ⟨b, 0, none⟩)] w fun e w' => e = .returned (.int .i64 st.syncE) ∧ P2 F w' b st.syncS c sr := by
  obtain ⟨v, vi, vw, h1, h2, f1, f2, hd, hb⟩ := h
  exact (sync_any h1 hn hwl).mono fun e w' ⟨he, hto⟩ => ⟨he, .stepP h1 h2 f1 f2 hd hb hto⟩
theorem P2.rsync (h : P2 F w b st c sr) (hn : sr.calls < 1000000000) (hwl : sr.wait.length < 1000000000) :
    Calls Try.prog 19 #[.pointer (some ⟨c, 0, none⟩)] w fun e w' => e = .returned (.int .i64 sr.syncE) ∧ P2 F w' b st c sr.syncS := by
  obtain ⟨v, vi, vw, h1, h2, f1, f2, hd, hb⟩ := h
  exact (rsync_any h2 hn hwl).mono fun e w' ⟨he, hto⟩ => ⟨he, .stepR h1 h2 f1 f2 hd hb hto⟩
theorem P2.crash (h : P2 F w b st c sr) (hwl : st.wait.length < 1000000000) (keep : Nat) (hk : keep < 18446744073709551616) :
    Calls Try.prog 14 #[.pointer (some ⟨b, 0, none⟩), .int .u64 (keep : Int)] w fun e w' => e = .returned (.tuple #[]) ∧ P2 F w' b (st.crash keep) c sr := by
  obtain ⟨v, vi, vw, h1, h2, f1, f2, hd, hb⟩ := h
  exact (crash_any h1 hwl keep hk).mono fun e w' ⟨he, hto⟩ => ⟨he, .stepP h1 h2 f1 f2 hd hb hto⟩
theorem P2.rcrash (h : P2 F w b st c sr) (hwl : sr.wait.length < 1000000000) (keep : Nat) (hk : keep < 18446744073709551616) :
    Calls Try.prog 24 #[.pointer (some ⟨c, 0, none⟩), .int .u64 (keep : Int)] w fun e w' => e = .returned (.tuple #[]) ∧ P2 F w' b st c (sr.crash keep) := by
  obtain ⟨v, vi, vw, h1, h2, f1, f2, hd, hb⟩ := h
  exact (rcrash_any h2 hwl keep hk).mono fun e w' ⟨he, hto⟩ => ⟨he, .stepR h1 h2 f1 f2 hd hb hto⟩
theorem P2.power (h : P2 F w b st c sr) :
    Calls Try.prog 15 #[.pointer (some ⟨b, 0, none⟩)] w fun e w' => e = .returned (.tuple #[]) ∧ P2 F w' b st.power c sr := by
  obtain ⟨v, vi, vw, h1, h2, f1, f2, hd, hb⟩ := h
  exact (power_any h1).mono fun e w' ⟨he, h3, h4⟩ => ⟨he, .stepP h1 h2 f1 f2 hd hb (.same h3 h4)⟩
theorem P2.rpower (h : P2 F w b st c sr) :
    Calls Try.prog 25 #[.pointer (some ⟨c, 0, none⟩)] w fun e w' => e = .returned (.tuple #[]) ∧ P2 F w' b st c sr.power := by
  obtain ⟨v, vi, vw, h1, h2, f1, f2, hd, hb⟩ := h
  exact (rpower_any h2).mono fun e w' ⟨he, h3, h4⟩ => ⟨he, .stepR h1 h2 f1 f2 hd hb (.same h3 h4)⟩
theorem P2.cut (h : P2 F w b st c sr) (n : Int) (hn : n ≤ 9223372036854775807) (keep : Nat) (hk : keep < 18446744073709551616) :
    Calls Try.prog 9 #[.pointer (some ⟨b, 0, none⟩), .int .i64 n, .int .u64 (keep : Int)] w fun e w' => e = .returned (.tuple #[]) ∧ P2 F w' b (st.cut n keep) c sr := by
  obtain ⟨v, vi, vw, h1, h2, f1, f2, hd, hb⟩ := h
  exact (cut_any h1 n hn keep hk).mono fun e w' ⟨he, h3, h4⟩ => ⟨he, .stepP h1 h2 f1 f2 hd hb (.same h3 h4)⟩
theorem P2.rcut (h : P2 F w b st c sr) (n : Int) (hn : n ≤ 9223372036854775807) (keep : Nat) (hk : keep < 18446744073709551616) :
    Calls Try.prog 23 #[.pointer (some ⟨c, 0, none⟩), .int .i64 n, .int .u64 (keep : Int)] w fun e w' => e = .returned (.tuple #[]) ∧ P2 F w' b st c (sr.cut n keep) := by
  obtain ⟨v, vi, vw, h1, h2, f1, f2, hd, hb⟩ := h
  exact (rcut_any h2 n hn keep hk).mono fun e w' ⟨he, h3, h4⟩ => ⟨he, .stepR h1 h2 f1 f2 hd hb (.same h3 h4)⟩
theorem P2.dead (h : P2 F w b st c sr) :
    Calls Try.prog 12 #[.pointer (some ⟨b, 0, none⟩)] w fun e w' => e = .returned (.bool st.off) ∧ w = w' := by
  obtain ⟨v, vi, vw, h1, _⟩ := h
  exact dead_any h1
theorem P2.calls (h : P2 F w b st c sr) :
    Calls Try.prog 13 #[.pointer (some ⟨b, 0, none⟩)] w fun e w' => e = .returned (.int .i64 (st.calls : Int)) ∧ w = w' := by
  obtain ⟨v, vi, vw, h1, _⟩ := h
  exact calls_any h1
theorem P2.size (h : P2 F w b st c sr) :
    Calls Try.prog 22 #[.pointer (some ⟨b, 0, none⟩)] w fun e w' => e = .returned (.int .i64 (st.size : Int)) ∧ w = w' := by
  obtain ⟨v, vi, vw, h1, _⟩ := h
  exact size_any h1
theorem P2.readAt (h : P2 F w b st c sr) (hwl : st.wait.length < 1000000000) (i : Int) :
    Calls Try.prog 20 #[.pointer (some ⟨b, 0, none⟩), .int .i64 i] w fun e w' => e = .returned (.tuple #[.string ⟨(st.readV i).toArray⟩, .int .i64 (st.wrong i)]) ∧ P2 F w' b st c sr := by
  obtain ⟨v, vi, vw, h1, h2, f1, f2, hd, hb⟩ := h
  exact (read_any h1 hwl i).mono fun e w' ⟨he, h3⟩ => ⟨he, .quiet ⟨v, vi, vw, h1, h2, f1, f2, hd, hb⟩ h3⟩
theorem P2.rreadAt (h : P2 F w b st c sr) (hwl : sr.wait.length < 1000000000) (i : Int) :
    Calls Try.prog 26 #[.pointer (some ⟨c, 0, none⟩), .int .i64 i] w fun e w' => e = .returned (.tuple #[.string ⟨(sr.readV i).toArray⟩, .int .i64 (sr.wrong i)]) ∧ w = w' := by
  obtain ⟨v, vi, vw, h1, h2, f1, f2, hd, hb⟩ := h
  exact rread_any h2 hwl i
end
/-- Both are made, the plate first. -/
theorem P2.made {w0 w : World} {b : Nat} {st : PS} {B : Nat} (h : P1 B w0 w b st) (n : Int) :
    Calls Try.prog 17 #[.int .i64 n] w fun e w' => e = .returned (.pointer (some ⟨w.heap.size, 0, none⟩)) ∧ P2 ⟨B, w0, fun _ => False, w⟩ w' b st w.heap.size (PS.new (sizeOfN n)) := by
  obtain ⟨v, h1, f1, hb⟩ := h
  have hB : B ≤ w.heap.size := Nat.le_trans (f1 b (.inl rfl)) (Nat.le_of_lt (h1.lt b (.inl rfl)))
  refine (rnew_any n).mono fun e w' ⟨he, vi, h2, h3, h4⟩ => ⟨he, v, vi, _, h1.below h4, h2, fun k hk => ⟨f1 k hk, fun hK => hK⟩, fun k hk => ⟨?_, fun hK => hK⟩, fun k hk hr => ?_, hb.trans (h4.mono hB), fun k hK => hK.elim⟩
  · show B ≤ k
    rcases hk with rfl | hk | hk
    · exact hB
    · have := h3 k hk; omega
    · simp [Value.ownBlock] at hk
  · have := h1.lt k hk
    rcases hr with rfl | hr | hr
    · omega
    · have := h3 k hr; omega
    · simp [Value.ownBlock] at hr
end Go.Proofs.Ytahmnehfadiegaa
