/- Grow of nothing, Concat of rows. -/
import Derived.Test.YtajbodfdohhhoaaExtD
namespace Go.Proofs.Ytajbodfdohhhoaa
open Go.RowKit
/-- A row to be read, wherever it lies. -/
def SrcR (w : World) (v : Value) (L : List Rg) : Prop :=
  ∃ a c, v = .slice a L.length c ∧ (a = none → L = [] ∧ c = 0) ∧ ∀ ad, a = some ad → ad.block < w.heap.size ∧ ∀ j u, (rrows L)[j]? = some u → w.cell? (ad.add j) = some u
theorem SrcR.below {w w' : World} {v : Value} {L : List Rg} (h : SrcR w v L) (hb : Below w.heap.size w w') : SrcR w' v L := by
  obtain ⟨a, c, h1, h2, h3⟩ := h
  refine ⟨a, c, h1, h2, fun ad had => ?_⟩
  obtain ⟨h4, h5⟩ := h3 ad had
  refine ⟨Nat.lt_of_lt_of_le h4 hb.size, fun j u hu => ?_⟩
  have e : (ad.add j).block = ad.block := by unfold Addr.add; split <;> rfl
  exact (World.cell?_of_block (a := ad.add j) (by rw [e]; exact hb.block _ h4)).trans (h5 j u hu)
theorem RowR.src {w : World} {v : Value} {L : List Rg} (h : RowR w v L) : SrcR w v L := by
  rcases h.nil_or with ⟨rfl, rfl⟩ | ⟨g, cap, rfl, hg, -⟩
  · exact ⟨none, 0, rfl, fun _ => ⟨rfl, rfl⟩, fun ad h => by cases h⟩
  · refine ⟨_, _, rfl, fun h => (by cases h), fun ad had => ?_⟩
    cases had
    exact ⟨hg, World.ownsRow.cells h rfl⟩
set_option maxRecDepth 100000 in
theorem grow_any {w : World} (n : Nat) (hn : n ≤ 100000) :
    Calls Try.prog 46 #[.slice none 0 0, .int .i64 (n : Int)] w fun e w' => ∃ v', e = .returned v' ∧ w'.ownsRow w.heap.size 27 2 v' 0 [] ∧ Below w.heap.size w w' := by
  obtain ⟨i0, hi0, hz0, hz1, hz2⟩ := info_parts Try.infoRg
  have Hi := Lib.hid hi0
  have Hz := Lib.hid hz0
  have Hz1 := Lib.hid hz1
  have Hz2 := Lib.hid hz2
  by_cases h0 : 0 < n
  · have hrz := fun ty => Lib.run_append_nil_zeros (P := Try.prog) w 25 3 ty 27 i0 _ .i64 .i64 Try.underlying25 Try.underlying3 hi0 hz0 n h0 (by rw [hz1]; decide) (by omega) (by rw [hz2]; omega)
    have hG := grownCap_ge w n 0 27
    have hG2 := grownCap_le_maxLen w n 0 27 (by unfold maxLen; omega)
    generalize grownCap w n 0 27 = G at hrz hG hG2
    have hown := World.ownsRow_made (base := w.heap.size) (e := 27) (size := 2) w.drew (Builtin.zeroCells (Rg.val Rg.zero).cells n ++ Builtin.zeroCells (Rg.val Rg.zero).cells (G - n)) G (Nat.le_refl _) hG2 (by rw [Array.size_append, size_zeroCells, size_zeroCells]; show n * 2 + (G - n) * 2 = G * 2; omega)
    have hbb : Below w.heap.size w (w.drew.alloc (.cells (Builtin.zeroCells (Rg.val Rg.zero).cells n ++ Builtin.zeroCells (Rg.val Rg.zero).cells (G - n)) 27)) := (Below.refl _ _).drew.alloc (Nat.le_refl _) _
    have hGi : (G : Int) ≤ 9223372036854775807 := by unfold maxLen at hG2; omega
    generalize hw1 : w.drew.alloc (.cells (Builtin.zeroCells (Rg.val Rg.zero).cells n ++ Builtin.zeroCells (Rg.val Rg.zero).cells (G - n)) 27) = w1 at hrz hown hbb
    have HO := Lib.hid hown
    have HB := Lib.hid hbb
    have Hrz := Lib.hid hrz
    clear hi0 hz0 hz1 hz2 hown hbb hw1 hrz
    go_enter Try.func46, Try.ntmps46
    go_wp2_with (at_builtin; refine Lib.wpList_append_run _ rfl _ _ _ _ rfl _ _ rfl rfl _ _ (Hrz.out _) ?_)
    go_ret
    exact ⟨_, rfl, HO.out, HB.out⟩
  · obtain rfl : n = 0 := by omega
    clear hi0 hz0 hz1 hz2
    go_enter Try.func46, Try.ntmps46
    go_wp2_with fail
    go_ret
    exact ⟨_, rfl, World.ownsRow_nil _ _ _ _, Below.refl _ _⟩
/-- The rows that are joined, one behind the other. -/
def joinR (vs : List (Value × List Rg)) : List Rg := vs.flatMap (·.2)
theorem joinR_snoc (vs : List (Value × List Rg)) (p : Value × List Rg) : joinR (vs ++ [p]) = joinR vs ++ p.2 := by simp [joinR]
theorem joinR_take {vs : List (Value × List Rg)} {k : Nat} {p : Value × List Rg} (h : vs[k]? = some p) : joinR (vs.take (k + 1)) = joinR (vs.take k) ++ p.2 := by
  have e : vs.take (k + 1) = vs.take k ++ [p] := by rw [List.take_add_one, h]; rfl
  rw [e, joinR_snoc]
theorem joinR_le (vs : List (Value × List Rg)) (k : Nat) : (joinR (vs.take k)).length ≤ (joinR vs).length := by
  have e : joinR vs = joinR (vs.take k) ++ joinR (vs.drop k) := by unfold joinR; rw [← List.flatMap_append, List.take_append_drop]
  rw [e, List.length_append]; omega
set_option maxRecDepth 100000 in
set_option maxHeartbeats 4000000 in
theorem concat_any {w : World} {q : Nat} {vs : List (Value × List Rg)} (h3 : vs.length ≤ 10) (hv : ∀ k p, vs[k]? = some p → w.cell? ⟨q, k, none⟩ = some p.1 ∧ SrcR w p.1 p.2) (hl : (joinR vs).length ≤ 30000) :
    Calls Try.prog 43 #[.slice (some ⟨q, 0, none⟩) vs.length vs.length] w fun e w' => ∃ v', e = .returned v' ∧ w'.ownsRow w.heap.size 27 2 v' (joinR vs).length (rrows (joinR vs)) ∧ Below w.heap.size w w' := by
  obtain ⟨i0, hi0, hz0, hz1, hz2⟩ := info_parts Try.infoRg
  have Hi := Lib.hid hi0
  have Hz := Lib.hid hz0
  have Hz1 := Lib.hid hz1
  have Hz2 := Lib.hid hz2
  have hvw : ∀ wr, Below w.heap.size w wr → ∀ k p, vs[k]? = some p → wr.cell? ⟨q, k, none⟩ = some p.1 ∧ SrcR wr p.1 p.2 := fun wr hb k p hk =>
    ⟨(World.cell?_of_block (a := ⟨q, k, none⟩) (hb.block q (World.block_lt_of_cell? w _ (hv k p hk).1))).trans (hv k p hk).1, (hv k p hk).2.below hb⟩
  have Hv := Lib.hid hvw
  clear hi0 hz0 hz1 hz2 hv hvw
  go_enter Try.func43, Try.ntmps43
  go_wp2_with fail
  go_loop [3, 11] (fun c i => ∃ k : Nat, k ≤ vs.length ∧ i = .int .i64 (k : Int) ∧ c = .int .i64 ((joinR (vs.take k)).length : Int)) (fun _ i => vs.length - (intOf i).toNat)
  case atStart => exact ⟨0, Nat.zero_le _, rfl, rfl⟩
  case round =>
    obtain ⟨k, hk, rfl, rfl⟩ := hrel
    have hjl := joinR_le vs k
    by_cases hlt : k < vs.length
    · obtain ⟨p, hp⟩ : ∃ p, vs[k]? = some p := ⟨_, List.getElem?_eq_getElem hlt⟩
      obtain ⟨c0, a, c, hpv, -⟩ := Hv.out w (Below.refl _ _) k p hp
      rw [hpv] at c0
      have hjt := joinR_take hp
      have hjl2 := joinR_le vs (k + 1)
      rw [hjt, List.length_append] at hjl2
      have HJ := Lib.hid hjt
      clear hp hpv hjt
      go_wp2_with fail
      go_round
      case rel => exact ⟨k + 1, by omega, by go_num, by rw [HJ.out, List.length_append]; go_num⟩
      case measure => simp [intOf]; omega
    · have et : vs.take k = vs := List.take_of_length_le (by omega)
      rw [et]
      have hgr := grow_any (w := w) (joinR vs).length (by omega)
      clear et hjl
      go_wp2_with fail
      refine hgr.mono ?_
      rintro e w1 ⟨v1, rfl, ho1, hb1⟩
      have HO1 := Lib.hid ho1
      clear hgr ho1
      go_wp2_with fail
      go_loopw [6, 27] (fun c i wr => ∃ k : Nat, k ≤ vs.length ∧ i = .int .i64 (k : Int) ∧ Below w.heap.size w wr ∧ wr.ownsRow w.heap.size 27 2 c (joinR (vs.take k)).length (rrows (joinR (vs.take k)))) (fun _ i _ => vs.length - (intOf i).toNat)
      case atStart => exact ⟨0, Nat.zero_le _, rfl, hb1, HO1.out⟩
      case round =>
        clear HO1 hb1
        obtain ⟨j, hj, rfl, hb, hown⟩ := hrel
        have hjl := joinR_le vs j
        by_cases hlt2 : j < vs.length
        · obtain ⟨p, hp⟩ : ∃ p, vs[j]? = some p := ⟨_, List.getElem?_eq_getElem hlt2⟩
          obtain ⟨c0, a, c, hpv, hnil, hsrc⟩ := Hv.out wr hb j p hp
          rw [hpv] at c0
          have hjt := joinR_take hp
          have hjl2 := joinR_le vs (j + 1)
          rw [hjt, List.length_append] at hjl2
          have hml : (joinR (vs.take j)).length + p.2.length ≤ maxLen := by unfold maxLen; omega
          have hbs := hb.size
          have HJ := Lib.hid hjt
          have Hown := Lib.hid hown
          have HB := Lib.hid hb
          cases a with
          | none =>
            obtain ⟨e0, ec⟩ := hnil rfl
            subst ec
            have e1 : p.2.length = 0 := by rw [e0]; rfl
            rw [e1] at c0
            have hr2 : joinR (vs.take (j + 1)) = joinR (vs.take j) := by rw [hjt, e0, List.append_nil]
            have HR2 := Lib.hid hr2
            clear hp hpv hjt hown hb hnil hsrc e0 e1 hr2
            go_wp2_with (refine wpList_append_own_none rfl (.tmp 31) (.tmp 32) 25 rfl w.heap.size 27 i0 2 Try.underlying25 Hi.out u6 (joinR (vs.take j)).length (rrows (joinR (vs.take j))) rfl Hown.out rfl ?_)
            go_wp2_with fail
            go_roundw
            case rel => exact ⟨j + 1, by omega, by go_num, HB.out, by rw [HR2.out]; exact Hown.out⟩
            case measure => simp [intOf]; omega
          | some ad =>
            obtain ⟨-, hcl⟩ := hsrc ad rfl
            have Hcl := Lib.hid hcl
            have h1c := one_rrows p.2
            have hln := length_rrows p.2
            have Hln := Lib.hid hln
            clear hp hpv hjt hown hb hnil hsrc hcl hln
            go_wp2_with (refine wpList_append_own_at _ rfl (.tmp 31) (.tmp 32) 25 rfl w.heap.size 27 i0 _ 2 16 Try.underlying25 Hi.out Hz.out Hz1.out Hz2.out rfl (by decide) u6 (joinR (vs.take j)).length (rrows (joinR (vs.take j))) rfl Hown.out ad p.2.length c (rrows p.2) rfl Hln.out Hcl.out h1c hml (by omega) hbs ?_)
            intro v' w3 hown3 hgrow hnil3 hat
            have hb3 : Below w.heap.size w w3 := HB.out.trans ⟨hgrow.os, hgrow.tape, hgrow.output, hgrow.size, fun t ht => hgrow.block t (by omega) (fun e => by have := (Hown.out.lt t e.symm).1; omega)⟩
            have hown4 : w3.ownsRow w.heap.size 27 2 v' (joinR (vs.take (j + 1))).length (rrows (joinR (vs.take (j + 1)))) := by
              rw [HJ.out, List.length_append, rrows_app]; exact hown3
            have H4 := Lib.hid hown4
            have H3 := Lib.hid hb3
            clear hown3 hgrow hnil3 hat hown4 hb3 c0 h1c
            go_wp2_with fail
            go_roundw
            case rel => exact ⟨j + 1, by omega, by go_num, H3.out, H4.out⟩
            case measure => simp [intOf]; omega
        · have et : vs.take j = vs := List.take_of_length_le (by omega)
          rw [et] at hown
          have HO := Lib.hid hown
          have HB := Lib.hid hb
          clear et hown hb
          go_wp2_with fail
          go_ret
          exact ⟨_, rfl, HO.out, HB.out⟩
end Go.Proofs.Ytajbodfdohhhoaa
