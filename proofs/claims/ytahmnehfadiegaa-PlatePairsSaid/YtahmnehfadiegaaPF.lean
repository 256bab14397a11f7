/- One plate in a law, with a frame of kept blocks; kept blocks told anew. -/
import Derived.Test.YtahmnehfadiegaaRefLaw
namespace Go.Proofs.Ytahmnehfadiegaa
open Go.RowKit
def PF (F : Frame) (w : World) (b : Nat) (st : PS) : Prop := ∃ v, IsPlate w b v st ∧ (∀ k, pfp b v k → F.B ≤ k ∧ ¬ F.K k) ∧ F.holds w
section
variable {F : Frame} {w : World} {b : Nat} {st : PS} {c : Nat} {sr : PS}
theorem P2.plate (h : P2 F w b st c sr) : PF F w b st := by
  obtain ⟨v, vi, vw, h1, h2, f1, f2, hd, hb⟩ := h
  exact ⟨v, h1, f1, hb⟩
/-- What is told anew is kept blocks alone: the plates are as they were; what is kept from here on is named anew. -/
theorem P2.moved {G K' : Nat → Prop} {w' : World} (h : P2 F w b st c sr) (hm : Moves G w w') (hG : ∀ k, G k → F.K k ∧ F.B ≤ k) (hK : ∀ k, K' k → k < w'.heap.size ∧ (F.K k ∨ w.heap.size ≤ k)) : P2 { F with K := K', wk := w' } w' b st c sr := by
  have hB := h.hB
  obtain ⟨v, vi, vw, h1, h2, f1, f2, hd, hb⟩ := h
  have hk : ∀ j, j < w.heap.size → F.B ≤ j ∧ ¬ F.K j → F.B ≤ j ∧ ¬ K' j := fun j hl hj => ⟨hj.1, fun hKj => by
    rcases (hK j hKj).2 with h3 | h3
    · exact hj.2 h3
    · omega⟩
  exact ⟨v, vi, vw, h1.moves hm fun k hp hg => (f1 k hp).2 (hG k hg).1, h2.moves hm fun k hp hg => (f2 k hp).2 (hG k hg).1, fun k hp => hk k (h1.lt k hp) (f1 k hp), fun k hp => hk k (h2.lt k hp) (f2 k hp), hd,
    hb.1.trans (hm.below hB fun k hg => (hG k hg).2), fun k hKk => ⟨(hK k hKk).1, rfl⟩⟩
theorem PF.moved {G K' : Nat → Prop} {w' : World} (h : PF F w b st) (hm : Moves G w w') (hG : ∀ k, G k → F.K k ∧ F.B ≤ k) (hK : ∀ k, K' k → k < w'.heap.size ∧ (F.K k ∨ w.heap.size ≤ k)) : PF { F with K := K', wk := w' } w' b st := by
  obtain ⟨v, h1, f1, hb⟩ := h
  have hB : F.B ≤ w.heap.size := Nat.le_trans (f1 b (.inl rfl)).1 (Nat.le_of_lt (h1.lt b (.inl rfl)))
  refine ⟨v, h1.moves hm fun k hp hg => (f1 k hp).2 (hG k hg).1, fun k hp => ⟨(f1 k hp).1, fun hKj => ?_⟩, hb.1.trans (hm.below hB fun k hg => (hG k hg).2), fun k hKk => ⟨(hK k hKk).1, rfl⟩⟩
  rcases (hK k hKj).2 with h3 | h3
  · exact (f1 k hp).2 h3
  · have := h1.lt k hp; omega
theorem PF.step {v : Value} {w' : World} {st' : PS} (h1 : IsPlate w b v st) (f1 : ∀ k, pfp b v k → F.B ≤ k ∧ ¬ F.K k) (hb : F.holds w) (hto : ToPlate w b v st' w') : PF F w' b st' := by
  obtain ⟨v', h', hm, hg⟩ := hto
  have hB : F.B ≤ w.heap.size := Nat.le_trans (f1 b (.inl rfl)).1 (Nat.le_of_lt (h1.lt b (.inl rfl)))
  refine ⟨v', h', fun k hk => ?_, hb.moves hm hB f1⟩
  rcases hg k hk with h | h
  · exact f1 k h
  · exact ⟨by omega, fun hK => by have := (hb.2 k hK).1; omega⟩
theorem PF.quiet {w' : World} (h : PF F w b st) (hbw : Below w.heap.size w w') : PF F w' b st := by
  obtain ⟨v, h1, f1, hb⟩ := h
  have hB : F.B ≤ w.heap.size := Nat.le_trans (f1 b (.inl rfl)).1 (Nat.le_of_lt (h1.lt b (.inl rfl)))
  exact ⟨v, h1.below hbw, f1, hb.below hbw hB⟩
theorem PF.drewN (h : PF F w b st) (n : Nat) : PF F (w.drewN n) b st := h.quiet ⟨rfl, rfl, rfl, Nat.le_refl _, fun _ _ => rfl⟩
theorem PF.hB (h : PF F w b st) : F.B ≤ w.heap.size := by
  obtain ⟨v, h1, f1, hb⟩ := h
  exact Nat.le_trans (f1 b (.inl rfl)).1 (Nat.le_of_lt (h1.lt b (.inl rfl)))
theorem PF.below (h : PF F w b st) : Below F.B F.w0 w := by
  obtain ⟨_, _, _, hb⟩ := h
  exact hb.1
theorem PF.ok (h : PF F w b st) : st.ok := by
  obtain ⟨_, h1, _⟩ := h
  exact h1.ok
theorem PF.kept (h : PF F w b st) {k : Nat} (hk : F.K k) : w.heap[k]? = F.wk.heap[k]? := by
  obtain ⟨_, _, _, hb⟩ := h
  exact (hb.2 k hk).2
theorem PF.write (h : PF F w b st) (hn : st.calls < 1000000000) (hwl : st.wait.length < 1000000) (i : Int) (s : ByteArray) (hs : s.size ≤ maxLen) :
    Calls Try.prog 11 #[.pointer (some ⟨b, 0, none⟩), .int .i64 i, .string s] w fun e w' => e = .returned (.int .i64 (st.writeE i s.data.toList)) ∧ PF F w' b (st.writeS i s.data.toList) := by
  obtain ⟨v, h1, f1, hb⟩ := h
  exact (write_any h1 hn hwl i s hs).mono fun e w' ⟨he, hto⟩ => ⟨he, .step h1 f1 hb hto⟩
theorem PF.sync (h : PF F w b st) (hn : st.calls < 1000000000) (hwl : st.wait.length < 1000000000) :
    Calls Try.prog 10 #[.pointer (some ⟨b, 0, none⟩)] w fun e w' => e = .returned (.int .i64 st.syncE) ∧ PF F w' b st.syncS := by
  obtain ⟨v, h1, f1, hb⟩ := h
  exact (sync_any h1 hn hwl).mono fun e w' ⟨he, hto⟩ => ⟨he, .step h1 f1 hb hto⟩
theorem PF.crash (h : PF F w b st) (hwl : st.wait.length < 1000000000) (keep : Nat) (hk : keep < 18446744073709551616) :
    Calls Try.prog 14 #[.pointer (some ⟨b, 0, none⟩), .int .u64 (keep : Int)] w fun e w' => e = .returned (.tuple #[]) ∧ PF F w' b (st.crash keep) := by
  obtain ⟨v, h1, f1, hb⟩ := h
  exact (crash_any h1 hwl keep hk).mono fun e w' ⟨he, hto⟩ => ⟨he, .step h1 f1 hb hto⟩
theorem PF.power (h : PF F w b st) :
    Calls Try.prog 15 #[.pointer (some ⟨b, 0, none⟩)] w fun e w' => e = .returned (.tuple #[]) ∧ PF F w' b st.power := by
  obtain ⟨v, h1, f1, hb⟩ := h
  exact (power_any h1).mono fun e w' ⟨he, h3, h4⟩ => ⟨he, .step h1 f1 hb (.same h3 h4)⟩
theorem PF.dead (h : PF F w b st) :
    Calls Try.prog 12 #[.pointer (some ⟨b, 0, none⟩)] w fun e w' => e = .returned (.bool st.off) ∧ w = w' := by
  obtain ⟨v, h1, _⟩ := h
  exact dead_any h1
theorem PF.readAt (h : PF F w b st) (hwl : st.wait.length < 1000000000) (i : Int) :
    Calls Try.prog 20 #[.pointer (some ⟨b, 0, none⟩), .int .i64 i] w fun e w' => e = .returned (.tuple #[.string ⟨(st.readV i).toArray⟩, .int .i64 (st.wrong i)]) ∧ PF F w' b st := by
  obtain ⟨v, h1, f1, hb⟩ := h
  exact (read_any h1 hwl i).mono fun e w' ⟨he, h3⟩ => ⟨he, .quiet ⟨v, h1, f1, hb⟩ h3⟩
/-- A row of its own, of strings, that lies in kept blocks. -/
def Kept (F : Frame) (v : Value) : Prop := ∀ k, v.ownBlock = some k → F.K k ∧ F.B ≤ k
theorem PF.row {w' : World} {st' : PS} (h : PF F w b st) (h' : PF F w' b st') {e : TypeId} {size n : Nat} {v : Value} {xs : List Value} (hv : Kept F v) (hr : w.ownsRow 0 e size v n xs) : w'.ownsRow 0 e size v n xs :=
  ownsRow_keep hr fun k hk => (h'.kept (hv k hk).1).trans (h.kept (hv k hk).1).symm
/-- The row has grown by an append: the new row is what is kept. -/
theorem PF.grown {w' : World} {o : Obj} {v v' : Value} {H : Nat} (h : PF F w b st) (hv : Kept F v) (hg : (w.alloc o).grownBy w' v.ownBlock) (hat : ∀ k, v'.ownBlock = some k → v.ownBlock = some k ∨ k = H) (hH : w.heap.size ≤ H)
    (hlt : ∀ k, v'.ownBlock = some k → k < w'.heap.size) : PF { F with K := fun k => v'.ownBlock = some k, wk := w' } w' b st ∧ Kept { F with K := fun k => v'.ownBlock = some k, wk := w' } v' := by
  have hm : Moves (fun k => v.ownBlock = some k) w w' := ((Moves.refl _ w).alloc o).grown hg fun k hk => .inl hk
  refine ⟨h.moved hm (fun k hk => hv k hk) (fun k hk => ⟨hlt k hk, ?_⟩), fun k hk => ⟨hk, ?_⟩⟩
  · rcases hat k hk with h1 | h1
    · exact .inl (hv k h1).1
    · exact .inr (by omega)
  · rcases hat k hk with h1 | h1
    · exact (hv k h1).2
    · have := h.hB; show F.B ≤ k; omega
end
end Go.Proofs.Ytahmnehfadiegaa
