/- The reference's small calls: wrong, Cut, Power, Read. -/
import Derived.Test.YtahmnehfadiegaaProg
import Derived.Test.YtahmnehfadiegaaRefMem
import Derived.WalkLawsBesides
namespace Go.Proofs.Ytahmnehfadiegaa
open Go.RowKit

section
variable {b : Nat} {vi vw : Value} {st : PS} {w : World}
/-- An element of an owned row of single cells. -/
theorem own_at {w : World} {e : TypeId} {v : Value} {n : Nat} {xs : List Value} (h : w.ownsRow 0 e 1 v n xs) {i : Nat} {u : Value} (hu : xs[i]? = some u) : ∃ g cap, v = .slice (some ⟨g, 0, none⟩) n cap ∧ w.cell? ⟨g, i, none⟩ = some u ∧ g < w.heap.size ∧ w.frozen? ⟨g, i, none⟩ = false := by
  rcases ownsRow_form h with ⟨_, _, rfl⟩ | ⟨g, cap, rfl, _, hg, _, _, hr, hf⟩
  · simp at hu
  · exact ⟨g, cap, rfl, by have := hr i u hu; rwa [Nat.zero_add] at this, hg, hf i⟩
theorem IsRef.sector (h : IsRef w b vi vw st) {i : Nat} {s : List UInt8} (hs : st.is[i]? = some s) : ∃ g cap, vi = .slice (some ⟨g, 0, none⟩) st.is.length cap ∧ w.cell? ⟨g, i, none⟩ = some (str s) ∧ g < w.heap.size ∧ w.frozen? ⟨g, i, none⟩ = false :=
  own_at h.is (by simp [scells, hs])
theorem IsRef.waiting (h : IsRef w b vi vw st) {k : Nat} {x : Nat × List UInt8} (hx : st.wait[k]? = some x) :
    ∃ g cap, vw = .slice (some ⟨g, 0, none⟩) st.wait.length cap ∧ w.cell? ⟨g, k * 2, none⟩ = some (.int .i64 (x.1 : Int)) ∧ w.cell? ⟨g, k * 2 + 1, none⟩ = some (str x.2) ∧ g < w.heap.size := by
  have h0 := rcells_at st.wait k x hx 0 _ rfl
  have h1 := rcells_at st.wait k x hx 1 _ rfl
  rcases ownsRow_form h.wait with ⟨_, _, h2⟩ | ⟨g, cap, rfl, _, hg, _, _, hr, _⟩
  · rw [h2] at h0; simp at h0
  · exact ⟨g, cap, rfl, by have := hr _ _ h0; rwa [Nat.zero_add, Nat.add_zero] at this, by have := hr _ _ h1; rwa [Nat.zero_add] at this, hg⟩
theorem IsRef.lens (h : IsRef w b vi vw st) : (∃ a cap, vi = .slice a st.is.length cap) ∧ ∃ a cap, vw = .slice a st.wait.length cap := by
  obtain ⟨a, c, h1, _⟩ := ownsRow_slice h.is
  obtain ⟨a', c', h2, _⟩ := ownsRow_slice h.wait
  exact ⟨⟨a, c, h1⟩, a', c', h2⟩

set_option maxRecDepth 100000 in
set_option maxHeartbeats 400000 in
theorem rwrong_any (h : IsRef w b vi vw st) (i : Int) : Calls Try.prog 32 #[.pointer (some ⟨b, 0, none⟩), .int .i64 i] w fun e w' => e = .returned (.int .i64 (st.wrong i)) ∧ w = w' := by
  have h1 := h.off
  have h2 := h.cvi
  have h3 := h.ok.len
  obtain ⟨⟨a, cap, rfl⟩, -⟩ := h.lens
  unfold PS.wrong
  rw [h3] at h2
  clear h3
  cases ho : st.off
  · rw [ho] at h1
    clear ho
    by_cases h3 : i < 0
    · have h4 : decide (i < 0) = true := by simpa using h3
      simp only [h3, true_or, if_true, Bool.false_eq_true, if_false]
      go_enter Try.func32, Try.ntmps32
      go_wp2
      go_ret
      exact ⟨rfl, rfl⟩
    · have h4 : decide (i < 0) = false := by simpa using h3
      by_cases h5 : (st.size : Int) ≤ i
      · simp only [h3, h5, or_true, if_true, Bool.false_eq_true, if_false]
        go_enter Try.func32, Try.ntmps32
        go_wp2
        go_ret
        exact ⟨rfl, rfl⟩
      · simp only [h3, h5, or_self, Bool.false_eq_true, if_false]
        go_enter Try.func32, Try.ntmps32
        go_wp2
        go_ret
        exact ⟨rfl, rfl⟩
  · rw [ho] at h1
    clear ho
    simp only [if_true]
    go_enter Try.func32, Try.ntmps32
    go_wp2
    go_ret
    exact ⟨rfl, rfl⟩
set_option maxHeartbeats 400000 in
theorem rpower_any (h : IsRef w b vi vw st) : Calls Try.prog 25 #[.pointer (some ⟨b, 0, none⟩)] w fun e w' => e = .returned (.tuple #[]) ∧ IsRef w' b vi vw st.power ∧ Moves (rfp b vi vw) w w' := by
  have h1 := h.off
  have h2 := h.left
  have h3 := h.fro 2
  have h4 := h.fro 3
  go_enter Try.func25, Try.ntmps25
  go_wp2
  go_end0
  exact ⟨rfl, (h.setOff false).setLeft 0 (by omega), ((Moves.refl _ _).setCell _ _ (.inl (.inl rfl))).setCell _ _ (.inl (.inl rfl))⟩
set_option maxHeartbeats 400000 in
theorem rcut_any (h : IsRef w b vi vw st) (n : Int) (hn : n ≤ 9223372036854775807) (keep : Nat) (hk : keep < 18446744073709551616) :
    Calls Try.prog 23 #[.pointer (some ⟨b, 0, none⟩), .int .i64 n, .int .u64 (keep : Int)] w fun e w' => e = .returned (.tuple #[]) ∧ IsRef w' b vi vw (st.cut n keep) ∧ Moves (rfp b vi vw) w w' := by
  have h1 := h.left
  have h2 := h.keep
  have h3 := h.fro 3
  have h4 := h.fro 4
  by_cases hneg : n < 0
  · have e : n.toNat = 0 := by omega
    have hp := (h.setLeft n.toNat (by omega)).setKeep keep hk
    rw [e] at hp
    have Hp : st.cut n keep = { st with left := 0, keep := keep } := by simp [PS.cut, e]
    rw [Hp]
    clear e Hp
    go_enter Try.func23, Try.ntmps23
    go_wp2
    go_end0
    exact ⟨rfl, hp, ((Moves.refl _ _).setCell _ _ (.inl (.inl rfl))).setCell _ _ (.inl (.inl rfl))⟩
  · obtain ⟨m, rfl⟩ := Int.eq_ofNat_of_zero_le (show 0 ≤ n by omega)
    have hp := (h.setLeft m (by omega)).setKeep keep hk
    go_enter Try.func23, Try.ntmps23
    go_wp2
    go_end0
    exact ⟨rfl, hp, ((Moves.refl _ _).setCell _ _ (.inl (.inl rfl))).setCell _ _ (.inl (.inl rfl))⟩
set_option maxRecDepth 100000 in
set_option maxHeartbeats 1000000 in
theorem rread_ok (h : IsRef w b vi vw st) (hwl : st.wait.length < 1000000000) (i : Nat) (hi : st.wrong i = 0) :
    Calls Try.prog 26 #[.pointer (some ⟨b, 0, none⟩), .int .i64 (i : Int)] w fun e w' => e = .returned (.tuple #[str (PS.curOf i st.wait (st.is.getD i [])), .int .i64 0]) ∧ w = w' := by
  have hwr := rwrong_any h i
  have hiw : i < st.size := (PS.wrong_lt hi).2
  rw [hi] at hwr
  have h128 := h.ok.hi
  have hx2 : (i : Int) < 128 := by omega
  have hsl := h.ok.len
  obtain ⟨s0, hs0⟩ : ∃ s0, st.is[i]? = some s0 := ⟨_, List.getElem?_eq_getElem (by omega)⟩
  have e0 : st.is.getD i [] = s0 := by rw [List.getD_eq_getElem?_getD, hs0]; rfl
  rw [e0]
  obtain ⟨gi, ci, rfl, hci, hgi, -⟩ := h.sector hs0
  have hw2 := h.cvw
  obtain ⟨-, aw, cw, rfl⟩ := h.lens
  have h1 := h.cvi
  have hil : (i : Int) < (st.is.length : Int) := by omega
  clear hs0 e0 hsl
  go_enter Try.func26, Try.ntmps26
  go_wp2_with fail
  refine hwr.mono ?_
  rintro e w1 ⟨rfl, rfl⟩
  clear hwr
  have hw2b := World.block_lt_of_cell? w _ hw2
  go_wp2_with fail
  go_loop [7, 8] (fun s c => ∃ k : Nat, k ≤ st.wait.length ∧ c = .int .i64 (k : Int) ∧ s = str (PS.curOf i (st.wait.take k) s0)) (fun _ c => st.wait.length - (intOf c).toNat)
  case atStart => exact ⟨0, Nat.zero_le _, rfl, rfl⟩
  case round =>
    obtain ⟨k, hk, rfl, rfl⟩ := hrel
    by_cases hlt : k < st.wait.length
    · obtain ⟨x, hx⟩ : ∃ x, st.wait[k]? = some x := ⟨_, List.getElem?_eq_getElem hlt⟩
      obtain ⟨g, c, hv, hc1, hc2, hg⟩ := h.waiting hx
      simp only [Value.slice.injEq] at hv
      obtain ⟨rfl, -, rfl⟩ := hv
      have e1 : st.wait.take (k + 1) = st.wait.take k ++ [x] := by rw [List.take_add_one, hx]; rfl
      have He : Hid (PS.curOf i (st.wait.take (k + 1)) s0 = if x.1 = i then x.2 else PS.curOf i (st.wait.take k) s0) := by rw [e1]; exact curOf_snoc _ _ _ _
      clear hx e1 h
      by_cases hxi : x.1 = i
      · have e1 : ((x.1 : Int) == (i : Int)) = true := by simp [hxi]
        have Hc1 := Lib.hid (He.out.trans (if_pos hxi))
        clear hxi He
        go_wp2_with fail
        go_round
        case rel => exact ⟨k + 1, by omega, by go_num, by rw [Hc1.out]⟩
        case measure => simp [intOf]; omega
      · have e1 : ((x.1 : Int) == (i : Int)) = false := by simp; omega
        have Hc1 := Lib.hid (He.out.trans (if_neg hxi))
        clear hxi He
        go_wp2_with fail
        go_round
        case rel => exact ⟨k + 1, by omega, by go_num, by rw [Hc1.out]⟩
        case measure => simp [intOf]; omega
    · have Hek := Lib.hid (show st.wait.take k = st.wait from List.take_of_length_le (by omega))
      go_wp2_with fail
      go_ret2
      exact ⟨by rw [Hek.out]; rfl, rfl⟩
set_option maxRecDepth 100000 in
set_option maxHeartbeats 1000000 in
theorem rread_any (h : IsRef w b vi vw st) (hwl : st.wait.length < 1000000000) (i : Int) :
    Calls Try.prog 26 #[.pointer (some ⟨b, 0, none⟩), .int .i64 i] w fun e w' => e = .returned (.tuple #[.string ⟨(st.readV i).toArray⟩, .int .i64 (st.wrong i)]) ∧ w = w' := by
  by_cases hw : st.wrong i = 0
  · obtain ⟨n, rfl⟩ := Int.eq_ofNat_of_zero_le (PS.wrong_lt hw).1
    refine (rread_ok h hwl n hw).mono ?_
    rintro e w' ⟨rfl, hb⟩
    exact ⟨by simp [PS.readV, hw, str], hb⟩
  · have e1 : st.readV i = [] := by simp [PS.readV, hw]
    rw [e1]
    have hwr := rwrong_any h i
    have hb : (st.wrong i != 0) = true := by simpa using hw
    clear e1 hw
    generalize st.wrong i = q at hb hwr ⊢
    go_enter Try.func26, Try.ntmps26
    go_wp2_with fail
    refine hwr.mono ?_
    rintro e w1 ⟨rfl, rfl⟩
    go_wp2_with fail
    go_ret2
    exact ⟨rfl, rfl⟩
end
end Go.Proofs.Ytahmnehfadiegaa
