/- The reference's without. -/
import Derived.Test.YtibpkdaiaoccjaaBagG
namespace Go.Proofs.Ytibpkdaiaoccjaa
open Go.RowKit
theorem mrows_take (l : List Ms) (n : Nat) : mrows (l.take n) = (mrows l).take (n * 8) := by
  induction l generalizing n with
  | nil => simp [mrows]
  | cons x r ih =>
    cases n with
    | zero => simp [mrows]
    | succ n =>
      show x.cells ++ mrows (r.take n) = (x.cells ++ mrows r).take ((n + 1) * 8)
      rw [ih, List.take_append, len_mcells, List.take_of_length_le (l := x.cells) (by rw [len_mcells]; omega), show (n + 1) * 8 - 8 = n * 8 by omega]
theorem mrows_drop (l : List Ms) (n : Nat) : mrows (l.drop n) = (mrows l).drop (n * 8) := by
  induction l generalizing n with
  | nil => simp [mrows]
  | cons x r ih =>
    cases n with
    | zero => simp
    | succ n =>
      show mrows (r.drop n) = (x.cells ++ mrows r).drop ((n + 1) * 8)
      rw [ih, List.drop_append, len_mcells, show List.drop ((n + 1) * 8) x.cells = [] from List.drop_eq_nil_of_le (by rw [len_mcells]; omega), List.nil_append, show (n + 1) * 8 - 8 = n * 8 by omega]
theorem erase_take_drop (l : List Ms) (n : Nat) : l.eraseIdx n = l.take n ++ l.drop (n + 1) := List.eraseIdx_eq_take_drop_succ l n
section
variable {w : World} {b : Nat} {v : Value} {l : List Ms}
set_option maxRecDepth 100000 in
set_option maxHeartbeats 2000000 in
theorem without_any (h : Has w b v l) (hl : l.length ≤ 1000) (n : Nat) (hn : n < l.length) :
    Calls Try.prog 41 #[.pointer (some ⟨b, 0, none⟩), .int .i64 (n : Int)] w fun e w' => ∃ v', e = .returned v' ∧ w'.ownsRow w.heap.size 23 8 v' (l.eraseIdx n).length (mrows (l.eraseIdx n)) ∧ Below w.heap.size w w' := by
  have herl : (l.eraseIdx n).length = n + (l.length - (n + 1)) := by rw [List.length_eraseIdx_of_lt hn]; omega
  have hern : mrows (l.eraseIdx n) = mrows (l.take n) ++ mrows (l.drop (n + 1)) := by rw [erase_take_drop]; simp [mrows]
  rw [herl, hern]
  clear herl hern
  obtain ⟨i0, hi0, hz0, hz1, hz2⟩ := info_parts Try.infoMsg
  have Hi := Lib.hid hi0
  have Hz := Lib.hid hz0
  have Hz1 := Lib.hid hz1
  have Hz2 := Lib.hid hz2
  have hown0 : (w.alloc (.cells #[] 23)).ownsRow w.heap.size 23 8 (.slice (some ⟨w.heap.size, 0, none⟩) 0 0) 0 [] := World.ownsRow_lit (base := w.heap.size) (size := 8) (e := 23) w #[] 0 (Nat.le_refl _) (by unfold maxLen; omega) rfl
  have HO := Lib.hid hown0
  have hA := h.alloc (.cells #[] 23)
  have Hh := Lib.hid h
  have cA := hA.c0
  obtain ⟨g, cap, rfl, hg, hcap⟩ : ∃ g cap, v = .slice (some ⟨g, 0, none⟩) l.length cap ∧ g < w.heap.size ∧ l.length ≤ cap := by
    rcases h.own.2 with ⟨h0, h1⟩ | ⟨g, cap, cur, h0, _, hgg, h2, _⟩
    · omega
    · exact ⟨g, cap, h0, (h.own.lt g (by rw [h0]; rfl)).2, h2⟩
  have hci : (l.length : Int) ≤ (cap : Int) := by omega
  have hni : (n : Int) ≤ (cap : Int) := by omega
  have hcl : ∀ j u, (mrows l)[j]? = some u → (w.alloc (.cells #[] 23)).cell? ⟨g, j, none⟩ = some u := fun j u hj => by
    have hj8 : j < l.length * 8 := by have := (List.getElem?_eq_some_iff.1 hj).1; rwa [length_mrows] at this
    rw [(h.alloc (.cells #[] 23)).own.cellAt j hj8]
    exact hj
  have hn1 : ∀ j u, (mrows (l.take n))[j]? = some u → (w.alloc (.cells #[] 23)).cell? ((⟨g, 0, none⟩ : Addr).add j) = some u := fun j u hj => by
    rw [Addr.add_mid, Nat.zero_add]
    rw [mrows_take, List.getElem?_take] at hj
    split at hj
    · exact hcl j u hj
    · cases hj
  have HN1 := Lib.hid hn1
  have hl1 : (mrows (l.take n)).length = n * 8 := by rw [length_mrows, List.length_take]; omega
  have hl2 : (mrows (l.drop (n + 1))).length = (l.length - (n + 1)) * 8 := by rw [length_mrows, List.length_drop]
  have o1 := one_mrows (l.take n)
  have o2 := one_mrows (l.drop (n + 1))
  have hm1 : 0 + n ≤ maxLen := by unfold maxLen; omega
  have hbs : w.heap.size ≤ (w.alloc (.cells #[] 23)).heap.size := by simp
  clear hi0 hz0 hz1 hz2 hown0 hA h
  go_enter Try.func41, Try.ntmps41
  go_wp2_with (refine wpList_append_own_at _ rfl (.tmp 7) (.tmp 13) 27 rfl w.heap.size 23 i0 _ 8 72 Try.underlying27 Hi.out Hz.out Hz1.out Hz2.out rfl (by decide) _ 0 [] rfl HO.out ⟨g, 0, none⟩ n cap (mrows (l.take n)) rfl hl1 HN1.out o1 hm1 (by omega) hbs ?_)
  intro v1 w1 hown1 hgrow hnil hat
  have hb1 : Below w.heap.size w w1 := ⟨hgrow.os, hgrow.tape, hgrow.output, by have := hgrow.size; simp at this; omega, fun k hk => (hgrow.block k (by simp; omega) (by simp only [Value.ownBlock, ne_eq, Option.some.injEq]; omega)).trans (Below.heap_alloc _ _ _ hk)⟩
  have c1 := (Hh.out.below hb1).c0
  have Hown1 := Lib.hid hown1
  have Hb1 := Lib.hid hb1
  clear hgrow hat hnil hown1 hb1 cA
  have hn2 : (n : Int) + 1 ≤ (l.length : Int) := by omega
  have hn3 : ((n : Int) + 1).toNat = n + 1 := by omega
  have hm2 : n + (l.length - (n + 1)) ≤ maxLen := by unfold maxLen; omega
  have hbs1 : w.heap.size ≤ w1.heap.size := Hb1.out.size
  have hcw : ∀ j u, (mrows l)[j]? = some u → w1.cell? ⟨g, j, none⟩ = some u := fun j u hj => by
    have hj8 : j < l.length * 8 := by have := (List.getElem?_eq_some_iff.1 hj).1; rwa [length_mrows] at this
    rw [(Hh.out.below Hb1.out).own.cellAt j hj8]
    exact hj
  clear hcl
  by_cases hc : cap = n + 1
  · subst hc
    have hz0 : l.length - (n + 1) = 0 := by omega
    have hz1 : mrows (l.drop (n + 1)) = [] := by rw [List.drop_eq_nil_of_le (by omega)]; rfl
    rw [hz0] at hm2
    have hnn : ∀ j u, ([] : List Value)[j]? = some u → w1.cell? ((⟨g, 0, none⟩ : Addr).add j) = some u := fun j u hj => by simp at hj
    have HNN := Lib.hid hnn
    have HZ0 := Lib.hid hz0
    have HZ1 := Lib.hid hz1
    clear hl2 o2 hz1 hcw hnn
    go_wp2_with (refine wpList_append_own_at _ rfl (.tmp 15) (.tmp 22) 27 rfl w.heap.size 23 i0 _ 8 72 Try.underlying27 Hi.out Hz.out Hz1.out Hz2.out rfl (by decide) v1 n (mrows (l.take n)) rfl Hown1.out ⟨g, 0, none⟩ 0 0 [] rfl rfl HNN.out (fun _ h => by simp at h) hm2 (by omega) hbs1 ?_)
    intro v2 w2 hown2 hgrow hnil hat
    have hb2 : Below w.heap.size w w2 := Hb1.out.trans ⟨hgrow.os, hgrow.tape, hgrow.output, hgrow.size, fun k hk => hgrow.block k (by omega) (fun e => by have := (Hown1.out.lt k e.symm).1; omega)⟩
    have H2 := Lib.hid hown2
    clear hgrow hat hnil hown2
    go_wp2_with fail
    go_ret
    exact ⟨_, rfl, by rw [HZ0.out, HZ1.out]; simpa using H2.out, hb2⟩
  · have hnn : ∀ j u, (mrows (l.drop (n + 1)))[j]? = some u → w1.cell? ((⟨g, (n + 1) * 8, none⟩ : Addr).add j) = some u := fun j u hj => by
      rw [Addr.add_mid]
      rw [mrows_drop, List.getElem?_drop] at hj
      exact hcw _ u hj
    have HNN := Lib.hid hnn
    clear hcw hnn
    go_wp2_with (refine wpList_append_own_at _ rfl (.tmp 15) (.tmp 22) 27 rfl w.heap.size 23 i0 _ 8 72 Try.underlying27 Hi.out Hz.out Hz1.out Hz2.out rfl (by decide) v1 n (mrows (l.take n)) rfl Hown1.out ⟨g, (n + 1) * 8, none⟩ (l.length - (n + 1)) (cap - (n + 1)) (mrows (l.drop (n + 1))) rfl hl2 HNN.out o2 hm2 (by omega) hbs1 ?_)
    intro v2 w2 hown2 hgrow hnil hat
    have hb2 : Below w.heap.size w w2 := Hb1.out.trans ⟨hgrow.os, hgrow.tape, hgrow.output, hgrow.size, fun k hk => hgrow.block k (by omega) (fun e => by have := (Hown1.out.lt k e.symm).1; omega)⟩
    have H2 := Lib.hid hown2
    clear hgrow hat hnil hown2
    go_wp2_with fail
    go_ret
    exact ⟨_, rfl, H2.out, hb2⟩
end
end Go.Proofs.Ytibpkdaiaoccjaa
