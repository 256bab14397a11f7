/- One plate in a law: it lies in blocks from B on; below B nothing has turned. -/
import Derived.Test.YtahmnehfadiegaaWrite
import Derived.Test.YtahmnehfadiegaaRead
import Derived.Test.YtahmnehfadiegaaPNew
namespace Go.Proofs.Ytahmnehfadiegaa
open Go.RowKit
def P1 (B : Nat) (w0 w : World) (b : Nat) (st : PS) : Prop := ∃ v, IsPlate w b v st ∧ (∀ k, pfp b v k → B ≤ k) ∧ Below B w0 w
theorem P1.step {B : Nat} {w0 w w' : World} {b : Nat} {v : Value} {st st' : PS} (h : IsPlate w b v st) (hf : ∀ k, pfp b v k → B ≤ k) (hb : Below B w0 w) (hto : ToPlate w b v st' w') : P1 B w0 w' b st' := by
  obtain ⟨v', h', hm, hg⟩ := hto
  have hB : B ≤ w.heap.size := Nat.le_trans (hf b (.inl rfl)) (Nat.le_of_lt (h.lt b (.inl rfl)))
  refine ⟨v', h', fun k hk => ?_, hb.trans (hm.below hB hf)⟩
  rcases hg k hk with h1 | h1
  · exact hf k h1
  · omega
theorem P1.read {B : Nat} {w0 w w' : World} {b : Nat} {v : Value} {st : PS} (h : IsPlate w b v st) (hf : ∀ k, pfp b v k → B ≤ k) (hb : Below B w0 w) (hbw : Below w.heap.size w w') : P1 B w0 w' b st := by
  have hB : B ≤ w.heap.size := Nat.le_trans (hf b (.inl rfl)) (Nat.le_of_lt (h.lt b (.inl rfl)))
  exact ⟨v, h.below hbw, hf, hb.trans (hbw.mono hB)⟩
theorem P1.new {w w' : World} {st : PS} (h : IsPlate w' w.heap.size (.slice none 0 0) st) (hb : Below w.heap.size w w') : P1 w.heap.size w w' w.heap.size st :=
  ⟨_, h, fun k hk => by rcases hk with rfl | hk; exact Nat.le_refl _; simp [Value.ownBlock] at hk, hb⟩
/-- The whole call of a method, one plate in sight. -/
theorem P1.write {B : Nat} {w0 w : World} {b : Nat} {st : PS} (h : P1 B w0 w b st) (hn : st.calls < 1000000000) (hwl : st.wait.length < 1000000) (i : Int) (s : ByteArray) (hs : s.size ≤ maxLen) :
    Calls Try.prog 11 #[.pointer (some ⟨b, 0, none⟩), .int .i64 i, .string s] w fun e w' => e = .returned (.int .i64 (st.writeE i s.data.toList)) ∧ P1 B w0 w' b (st.writeS i s.data.toList) := by
  obtain ⟨v, hp, hf, hb⟩ := h
  exact (write_any hp hn hwl i s hs).mono fun e w' ⟨he, hto⟩ => ⟨he, .step hp hf hb hto⟩
theorem P1.sync {B : Nat} {w0 w : World} {b : Nat} {st : PS} (h : P1 B w0 w b st) (hn : st.calls < 1000000000) (hwl : st.wait.length < 1000000000) :
    Calls Try.prog 10 #[.pointer (some ⟨b, 0, none⟩)] w fun e w' => e = .returned (.int .i64 st.syncE) ∧ P1 B w0 w' b st.syncS := by
  obtain ⟨v, hp, hf, hb⟩ := h
  exact (sync_any hp hn hwl).mono fun e w' ⟨he, hto⟩ => ⟨he, .step hp hf hb hto⟩
theorem P1.crash {B : Nat} {w0 w : World} {b : Nat} {st : PS} (h : P1 B w0 w b st) (hwl : st.wait.length < 1000000000) (keep : Nat) (hk : keep < 18446744073709551616) :
    Calls Try.prog 14 #[.pointer (some ⟨b, 0, none⟩), .int .u64 (keep : Int)] w fun e w' => e = .returned (.tuple #[]) ∧ P1 B w0 w' b (st.crash keep) := by
  obtain ⟨v, hp, hf, hb⟩ := h
  exact (crash_any hp hwl keep hk).mono fun e w' ⟨he, hto⟩ => ⟨he, .step hp hf hb hto⟩
theorem P1.power {B : Nat} {w0 w : World} {b : Nat} {st : PS} (h : P1 B w0 w b st) :
    Calls Try.prog 15 #[.pointer (some ⟨b, 0, none⟩)] w fun e w' => e = .returned (.tuple #[]) ∧ P1 B w0 w' b st.power := by
  obtain ⟨v, hp, hf, hb⟩ := h
  exact (power_any hp).mono fun e w' ⟨he, h1, h2⟩ => ⟨he, .step hp hf hb (.same h1 h2)⟩
theorem P1.cut {B : Nat} {w0 w : World} {b : Nat} {st : PS} (h : P1 B w0 w b st) (n : Int) (hn : n ≤ 9223372036854775807) (keep : Nat) (hk : keep < 18446744073709551616) :
    Calls Try.prog 9 #[.pointer (some ⟨b, 0, none⟩), .int .i64 n, .int .u64 (keep : Int)] w fun e w' => e = .returned (.tuple #[]) ∧ P1 B w0 w' b (st.cut n keep) := by
  obtain ⟨v, hp, hf, hb⟩ := h
  exact (cut_any hp n hn keep hk).mono fun e w' ⟨he, h1, h2⟩ => ⟨he, .step hp hf hb (.same h1 h2)⟩
theorem P1.dead {B : Nat} {w0 w : World} {b : Nat} {st : PS} (h : P1 B w0 w b st) :
    Calls Try.prog 12 #[.pointer (some ⟨b, 0, none⟩)] w fun e w' => e = .returned (.bool st.off) ∧ w = w' := by
  obtain ⟨v, hp, hf, hb⟩ := h
  exact dead_any hp
theorem P1.calls {B : Nat} {w0 w : World} {b : Nat} {st : PS} (h : P1 B w0 w b st) :
    Calls Try.prog 13 #[.pointer (some ⟨b, 0, none⟩)] w fun e w' => e = .returned (.int .i64 (st.calls : Int)) ∧ w = w' := by
  obtain ⟨v, hp, hf, hb⟩ := h
  exact calls_any hp
theorem P1.size {B : Nat} {w0 w : World} {b : Nat} {st : PS} (h : P1 B w0 w b st) :
    Calls Try.prog 22 #[.pointer (some ⟨b, 0, none⟩)] w fun e w' => e = .returned (.int .i64 (st.size : Int)) ∧ w = w' := by
  obtain ⟨v, hp, hf, hb⟩ := h
  exact size_any hp
theorem P1.readAt {B : Nat} {w0 w : World} {b : Nat} {st : PS} (h : P1 B w0 w b st) (hwl : st.wait.length < 1000000000) (i : Int) :
    Calls Try.prog 20 #[.pointer (some ⟨b, 0, none⟩), .int .i64 i] w fun e w' => e = .returned (.tuple #[.string ⟨(st.readV i).toArray⟩, .int .i64 (st.wrong i)]) ∧ P1 B w0 w' b st := by
  obtain ⟨v, hp, hf, hb⟩ := h
  exact (read_any hp hwl i).mono fun e w' ⟨he, h1⟩ => ⟨he, .read hp hf hb h1⟩
theorem P1.made {w : World} (n : Int) : Calls Try.prog 8 #[.int .i64 n] w fun e w' => e = .returned (.pointer (some ⟨w.heap.size, 0, none⟩)) ∧ P1 w.heap.size w w' w.heap.size (PS.new (sizeOfN n)) :=
  (new_any n).mono fun _ _ ⟨he, h1, h2⟩ => ⟨he, .new h1 h2⟩
theorem P1.below {B : Nat} {w0 w : World} {b : Nat} {st : PS} (h : P1 B w0 w b st) : Below B w0 w := h.choose_spec.2.2
theorem P1.ok {B : Nat} {w0 w : World} {b : Nat} {st : PS} (h : P1 B w0 w b st) : st.ok := h.choose_spec.1.ok
end Go.Proofs.Ytahmnehfadiegaa
