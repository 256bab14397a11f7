/- Lemmas of the proof of TopAgrees, in one text: the parts Slc, Sld, Slk, LsB, Gs. Each part's own comment says what it shows. No condition but those that each lemma names. -/
import Derived.Test.YtfjfkmoofmncnaaDoorSpD
import Derived.Lib.SliceRun
import Derived.Deep.AppendLies
import Derived.Deep.RegionLaw
import Derived.Laws.OwnMore
import Derived.Laws.AppendOwnNone
import Derived.Maps.AppendAt
import Derived.BigQuiet
import Derived.Lib.BufferMore
/- slices.IndexFunc, ContainsFunc, DeleteFunc, Clone over holds, with any predicate. -/
namespace Go.Proofs.YtfjfkmoofmncnaaDoor
open Go.RowKit Go.Shelf
/-- The place of the first that p lets in; -1: none. -/
def ixOf (p : Hd → Bool) (l : List Hd) : Int := match l.findIdx? p with
  | some i => (i : Int)
  | none => -1
theorem ixOf_hit {p : Hd → Bool} {l : List Hd} {k : Nat} {x : Hd} (hx : l[k]? = some x) (hp : p x = true) (hb : ∀ j y, j < k → l[j]? = some y → p y = false) : ixOf p l = (k : Int) := by
  have : l.findIdx? p = some k := by
    rw [List.findIdx?_eq_some_iff_getElem]
    obtain ⟨hk, e⟩ := List.getElem?_eq_some_iff.1 hx
    exact ⟨hk, by rw [e]; exact hp, fun j hj => by rw [hb j _ hj (List.getElem?_eq_getElem (by omega))]; simp⟩
  unfold ixOf
  rw [this]
theorem ixOf_none {p : Hd → Bool} {l : List Hd} (hb : ∀ (j : Nat) (y : Hd), l[j]? = some y → p y = false) : ixOf p l = -1 := by
  have : l.findIdx? p = none := by
    rw [List.findIdx?_eq_none_iff]
    intro x hx
    obtain ⟨j, hj, e⟩ := List.mem_iff_getElem.1 hx
    exact hb j x (by rw [List.getElem?_eq_getElem hj, e])
  unfold ixOf
  rw [this]
theorem ixOf_any (p : Hd → Bool) (l : List Hd) : decide (0 ≤ ixOf p l) = l.any p := by
  unfold ixOf
  cases h : l.findIdx? p with
  | none =>
    rw [List.findIdx?_eq_none_iff] at h
    have : l.any p = false := by
      rw [List.any_eq_false]
      intro x hx
      rw [h x hx]; simp
    rw [this]
    rfl
  | some i =>
    rw [List.findIdx?_eq_some_iff_getElem] at h
    obtain ⟨hi, hp, _⟩ := h
    have : l.any p = true := List.any_eq_true.2 ⟨_, List.getElem_mem hi, hp⟩
    rw [this]
    simp
section
variable {w w' : World} {base : Nat} {v : Value} {l : List Hd}
set_option maxRecDepth 100000 in
set_option maxHeartbeats 2000000 in
theorem index_any (ho : w.ownsRow base 57 4 v l.length (hrows l)) (hl : l.length ≤ 1000000) (wf : FuncId) (lb : Array Value) (p : Hd → Bool) (eg : ∀ args w, (callFunc wf args).run Tryd.prog w = .ok (.enter wf args) w)
    (hp : ∀ (x : Hd) (W : World), x ∈ l → Below w.heap.size w W → Calls Tryd.prog wf (#[x.val] ++ lb) W fun e w' => e = .returned (.bool (p x)) ∧ Below W.heap.size W w') :
    Calls Tryd.prog 139 #[v, .func (.func wf) #[] lb] w fun e w' => e = .returned (.int .i64 (ixOf p l)) ∧ Below w.heap.size w w' := by
  obtain ⟨av, cap, rfl⟩ := row_lens ho
  unfold Hd.val at hp
  go_enter Tryd.func139, Tryd.ntmps139
  go_wp2_with fail
  go_loopw [8] (fun c wr => ∃ k : Nat, k ≤ l.length ∧ c = .int .i64 (k : Int) ∧ (∀ j y, j < k → l[j]? = some y → p y = false) ∧ Below w.heap.size w wr) (fun c _ => l.length - (intOf c).toNat)
  case atStart => exact ⟨0, by omega, rfl, fun j y hj => absurd hj (by omega), Below.refl _ _⟩
  case round =>
    obtain ⟨k, hk, rfl, hb, hB⟩ := hrel
    by_cases hlt : k < l.length
    · have e1 : decide ((k : Int) < (l.length : Int)) = true := by simpa using hlt
      obtain ⟨x, hx⟩ : ∃ x, l[k]? = some x := ⟨_, List.getElem?_eq_getElem hlt⟩
      have hor := ownsRow_keep ho fun q hq => hB.block q (ho.lt q hq).2
      obtain ⟨g, cap', ev, hc⟩ := hrowcell hor hx
      injection ev with ev1 ev2 ev3
      subst ev1
      have c0 := hc 0 _ rfl
      have c1 := hc 1 _ rfl
      have c2 := hc 2 _ rfl
      have c3 := hc 3 _ rfl
      rw [Nat.add_zero] at c0
      have hlz : (k : Int) < (l.length : Int) := by omega
      have hcall := hp x wr (List.mem_of_getElem? hx) hB
      have Hb := Lib.hid hb
      have HB := Lib.hid hB
      have Hx := Lib.hid hx
      have Ho := Lib.hid ho
      clear hb hB hx hor hc ev2 ev3 ho hp
      cases hpx : p x with
      | true =>
        rw [hpx] at hcall
        go_wp2_with (go_at_fn wf; refine hcall.mono ?_; clear hcall; rintro e w1 ⟨rfl, hb1⟩)
        go_ret
        exact ⟨by rw [ixOf_hit Hx.out hpx Hb.out]; rfl, HB.out.trans (hb1.mono HB.out.size)⟩
      | false =>
        rw [hpx] at hcall
        go_wp2_with (go_at_fn wf; refine hcall.mono ?_; clear hcall; rintro e w1 ⟨rfl, hb1⟩)
        go_roundw
        case rel =>
          refine ⟨k + 1, by omega, by go_num, fun j y hj hy => ?_, HB.out.trans (hb1.mono HB.out.size)⟩
          by_cases e : j = k
          · subst e; rw [Hx.out] at hy; cases hy; exact hpx
          · exact Hb.out j y (by omega) hy
        case measure => simp [intOf]; omega
    · have e1 : decide ((k : Int) < (l.length : Int)) = false := by simp; omega
      have ek : k = l.length := by omega
      go_wp2_with fail
      go_ret
      exact ⟨by rw [ixOf_none fun j y hy => hb j y (by have := (List.getElem?_eq_some_iff.1 hy).1; omega) hy]; rfl, hB⟩
set_option maxRecDepth 100000 in
theorem contains_any (ho : w.ownsRow base 57 4 v l.length (hrows l)) (hl : l.length ≤ 1000000) (wf : FuncId) (lb : Array Value) (p : Hd → Bool) (eg : ∀ args w, (callFunc wf args).run Tryd.prog w = .ok (.enter wf args) w)
    (hp : ∀ (x : Hd) (W : World), x ∈ l → Below w.heap.size w W → Calls Tryd.prog wf (#[x.val] ++ lb) W fun e w' => e = .returned (.bool (p x)) ∧ Below W.heap.size W w') :
    Calls Tryd.prog 121 #[v, .func (.func wf) #[] lb] w fun e w' => e = .returned (.bool (l.any p)) ∧ Below w.heap.size w w' := by
  have hi := index_any ho hl wf lb p eg hp
  have e1 := ixOf_any p l
  go_enter Tryd.func121, Tryd.ntmps121
  go_wp2_with (go_at_call 139; refine hi.mono ?_; clear hi; rintro e w1 ⟨rfl, hb1⟩)
  go_ret
  exact ⟨rfl, hb1⟩
end
end Go.Proofs.YtfjfkmoofmncnaaDoor
/- slices.DeleteFunc over holds, with any predicate. -/
namespace Go.Proofs.YtfjfkmoofmncnaaDoor
open Go.RowKit Go.Shelf
/-- A row's block: its cells' count and type. -/
def Shape (W : World) (g N : Nat) : Prop := ∃ cur : Array Value, W.heap[g]? = some (.cells cur 57 (0, 0)) ∧ cur.size = N
section
variable {W W' : World} {g N : Nat} {D : List Hd}
theorem Shape.keep (h : Shape W g N) (hk : W'.heap[g]? = W.heap[g]?) : Shape W' g N := by
  obtain ⟨cur, h1, h2⟩ := h
  exact ⟨cur, hk.trans h1, h2⟩
theorem Shape.set (h : Shape W g N) (p : Addr) (v : Value) : Shape (W.setCell p v) g N := by
  obtain ⟨cur, h1, h2⟩ := h
  by_cases e : g = p.block
  · have hg := (Array.getElem?_eq_some_iff.1 h1).1
    refine ⟨if p.spot.isSome then cur else cur.setIfInBounds p.off v, ?_, by split <;> simp [h2]⟩
    subst e
    show (W.heap.modify p.block _)[p.block]? = _
    rw [Array.getElem?_eq_getElem (by rw [Array.size_modify]; exact hg), Array.getElem_modify_self]
    rw [Array.getElem?_eq_getElem hg] at h1
    rw [Option.some.inj h1]
  · exact ⟨cur, (Below.heap_setCell _ _ _ _ e).trans h1, h2⟩
theorem Shape.sets (h : Shape W g N) (b : Nat) : ∀ (vs : List Value) (o : Nat), Shape (W.setCells b o vs) g N := fun vs => by
  revert W
  induction vs with
  | nil => intro W h o; exact h
  | cons v r ih => intro W h o; rw [World.setCells]; exact ih (h.set _ _) (o + 1)
theorem Shape.fro (h : Shape W g N) (o : Nat) : W.frozen? ⟨g, o, none⟩ = false := by
  obtain ⟨cur, h1, _⟩ := h
  exact frozen_of_row W g o cur _ h1
theorem Shape.there (h : Shape W g N) {o : Nat} (ho : o < N) : (W.cell? ⟨g, o, none⟩).isSome = true := by
  obtain ⟨cur, h1, h2⟩ := h
  rw [cell_of_row W g o cur _ (0, 0) h1]
  simp [h2, ho]
/-- The holds D lie in block g. -/
structure HRow (W : World) (g N : Nat) (D : List Hd) : Prop where
  s : Shape W g N
  n : D.length * 4 ≤ N
  c : ∀ k x, D[k]? = some x → ∀ j u, x.cells[j]? = some u → W.cell? ⟨g, k * 4 + j, none⟩ = some u
theorem HRow.keep (h : HRow W g N D) (hk : W'.heap[g]? = W.heap[g]?) : HRow W' g N D :=
  ⟨h.s.keep hk, h.n, fun k x hx j u hj => (World.cell?_of_block (a := ⟨g, k * 4 + j, none⟩) hk).trans (h.c k x hx j u hj)⟩
theorem HRow.own (h : HRow W g N D) {base cap : Nat} (hN : N = cap * 4) (hc : cap ≤ maxLen) (hb : base ≤ g) (n : Nat) (hn : n ≤ D.length) : W.ownsRow base 57 4 (.slice (some ⟨g, 0, none⟩) n cap) n (hrows (D.take n)) := by
  obtain ⟨cur, h1, h2⟩ := h.s
  have hl : (hrows (D.take n)).length = n * 4 := by rw [length_hrows, List.length_take, Nat.min_eq_left hn]
  refine ⟨hl, .inr ⟨g, cap, cur, rfl, hb, h1, by have := h.n; omega, hc, by omega, ?_⟩⟩
  apply List.ext_getElem?
  intro i
  by_cases hi : i < n * 4
  · have hk : i / 4 < n := by omega
    have hj : i % 4 < 4 := Nat.mod_lt _ (by omega)
    obtain ⟨x, hx⟩ : ∃ x, D[i / 4]? = some x := ⟨_, List.getElem?_eq_getElem (by omega)⟩
    obtain ⟨u, hu⟩ : ∃ u, x.cells[i % 4]? = some u := ⟨_, List.getElem?_eq_getElem (by simp [Hd.cells]; omega)⟩
    have h3 := h.c _ _ hx _ _ hu
    rw [show i / 4 * 4 + i % 4 = i by omega, cell_of_row W g i cur _ (0, 0) h1] at h3
    rw [List.getElem?_take, if_pos hi, Array.getElem?_toList, h3]
    have h4 := hrows_at (D.take n) (i / 4) x (by rw [List.getElem?_take, if_pos hk]; exact hx) _ _ hu
    rw [show i / 4 * 4 + i % 4 = i by omega] at h4
    exact h4.symm
  · rw [List.getElem?_take, if_neg hi, List.getElem?_eq_none (by omega)]
theorem HRow.of {base cap : Nat} (h : W.ownsRow base 57 4 (.slice (some ⟨g, 0, none⟩) D.length cap) D.length (hrows D)) : HRow W g (cap * 4) D ∧ cap ≤ maxLen ∧ base ≤ g := by
  rcases h.2 with ⟨e, _⟩ | ⟨g', cap', cur, e, hb, hh, hn, hm, hs, ht⟩
  · cases e
  · injection e with e1 e2 e3
    injection e1 with e1
    injection e1 with e1
    subst e1
    subst e3
    refine ⟨⟨⟨cur, hh, hs⟩, by omega, fun k x hx j u hj => ?_⟩, hm, hb⟩
    obtain ⟨g2, c2, e2, hc⟩ := hrowcell h hx
    injection e2 with e3
    injection e3 with e3
    injection e3 with e3
    subst e3
    exact hc j u hj
/-- One hold told into its place. -/
theorem HRow.put (h : HRow W g N D) (i : Nat) (hi : i < D.length) (y : Hd) :
    HRow ((((W.setCell ⟨g, i * 4, none⟩ (.int .i64 (y.a : Int))).setCell ⟨g, i * 4 + 1, none⟩ (.int .i64 (y.b : Int))).setCell ⟨g, i * 4 + 2, none⟩ (.int .i64 (y.c : Int))).setCell ⟨g, i * 4 + 3, none⟩ (.int .i64 (y.m : Int))) g N (D.set i y) := by
  have hN := h.n
  refine ⟨(((h.s.set _ _).set _ _).set _ _).set _ _, by rw [List.length_set]; exact hN, fun k x hx j u hj => ?_⟩
  have hj4 : j < 4 := (List.getElem?_eq_some_iff.1 hj).1
  have ht : ∀ (X : World) (hs : Shape X g N) (o : Nat) (v : Value), o < N → (X.setCell ⟨g, o, none⟩ v).cell? ⟨g, o, none⟩ = some v := fun X hs o v ho => by
    obtain ⟨u, hu⟩ := Option.isSome_iff_exists.1 (hs.there ho)
    exact World.cell?_setCell_same _ _ _ hu
  by_cases e : k = i
  · subst e
    rw [List.getElem?_set_self hi] at hx
    cases hx
    rcases (by omega : j = 0 ∨ j = 1 ∨ j = 2 ∨ j = 3) with rfl | rfl | rfl | rfl
    · rw [oth_cell _ _ _ (by omega), oth_cell _ _ _ (by omega), oth_cell _ _ _ (by omega), Nat.add_zero, ht _ h.s _ _ (by omega)]
      simpa [Hd.cells] using hj
    · rw [oth_cell _ _ _ (by omega), oth_cell _ _ _ (by omega), ht _ (h.s.set _ _) _ _ (by omega)]
      simpa [Hd.cells] using hj
    · rw [oth_cell _ _ _ (by omega), ht _ ((h.s.set _ _).set _ _) _ _ (by omega)]
      simpa [Hd.cells] using hj
    · rw [ht _ (((h.s.set _ _).set _ _).set _ _) _ _ (by omega)]
      simpa [Hd.cells] using hj
  · rw [List.getElem?_set_ne (by omega)] at hx
    rw [oth_cell _ _ _ (by omega), oth_cell _ _ _ (by omega), oth_cell _ _ _ (by omega), oth_cell _ _ _ (by omega)]
    exact h.c k x hx j u hj
theorem HRow.cut (h : HRow W g N D) (i : Nat) (vs : List Value) (hi : i ≤ D.length) : HRow (W.setCells g (i * 4) vs) g N (D.take i) := by
  refine ⟨h.s.sets _ _ _, by rw [List.length_take]; have := h.n; omega, fun k x hx j u hj => ?_⟩
  have hk : k < i := by have := (List.getElem?_eq_some_iff.1 hx).1; rw [List.length_take] at this; omega
  have hj4 : j < 4 := (List.getElem?_eq_some_iff.1 hj).1
  rw [World.cell?_setCells_out g vs (i * 4) W ⟨g, k * 4 + j, none⟩ (fun _ _ => .inl (by show k * 4 + j < i * 4; omega))]
  rw [List.getElem?_take, if_pos hk] at hx
  exact h.c k x hx j u hj
theorem Tryd.infoHold2 : (Tryd.prog.info? 57).map (fun i => (i.zero, i.size)) = some (some (Hd.val ⟨0, 0, 0, 0⟩), 4) := by kernel_rfl
theorem run_clear_holds {P : Program} (t e ty : TypeId) (z : Value) (ht : P.underlying t = some (.slice e)) (hv : ∀ w, (zeroValue e).run P w = .ok z w) (hz : z.cells.size = 4) (h1 : ∀ v ∈ z.cells, v.oneCell' = true) (o n c : Nat) (hn : 0 < n)
    (hs : Shape W g N) (hN : o + n * 4 ≤ N) : ∃ vs, (Builtin.clear_ #[t] ty #[.slice (some ⟨g, o, none⟩) n c]).run P W = .ok (.tuple #[]) (W.setCells g o vs) := by
  refine ⟨(Builtin.zeroCells z.cells n).toList, ?_⟩
  have hl : (Builtin.zeroCells z.cells n).toList.length = n * 4 := by simp [Builtin.zeroCells, hz]
  have hst := run_storeCells_cells (P := P) g o (Builtin.zeroCells z.cells n).toList 0 W (fun j hj => by rw [hl] at hj; exact hs.there (by omega)) (fun j _ => hs.fro _) (fun v hv' => by
    simp [Builtin.zeroCells] at hv'
    obtain ⟨i, hi, rfl⟩ := hv'
    rw [hz, getElem!_pos z.cells (i % 4) (by rw [hz]; omega)]
    exact h1 _ (Array.getElem_mem _))
  rw [Nat.add_zero] at hst
  obtain ⟨m, rfl⟩ : ∃ m, n = m + 1 := ⟨n - 1, by omega⟩
  simp [Builtin.clear_, run_underlying ht, hv, hst]
theorem ixOf_cases (p : Hd → Bool) (l : List Hd) : (ixOf p l = -1 ∧ l.filter (fun x => !p x) = l) ∨ ∃ (k : Nat) (x : Hd), l[k]? = some x ∧ p x = true ∧ ixOf p l = (k : Int) ∧ (l.take (k + 1)).filter (fun x => !p x) = l.take k := by
  by_cases h : ∃ (j : Nat) (y : Hd), l[j]? = some y ∧ p y = true
  · obtain ⟨j, y, hy, hp⟩ := h
    cases hf : l.findIdx? p with
    | none =>
      rw [List.findIdx?_eq_none_iff] at hf
      rw [hf y (List.mem_of_getElem? hy)] at hp
      cases hp
    | some k =>
      have hf' := hf
      rw [List.findIdx?_eq_some_iff_getElem] at hf
      obtain ⟨hk, hpk, hb⟩ := hf
      refine .inr ⟨k, l[k], List.getElem?_eq_getElem hk, hpk, by unfold ixOf; rw [hf'], ?_⟩
      rw [List.take_succ_eq_append_getElem hk, List.filter_append]
      have h1 : (l.take k).filter (fun x => !p x) = l.take k := by
        rw [List.filter_eq_self]
        intro x hx
        obtain ⟨i, hi, e⟩ := List.mem_iff_getElem.1 hx
        rw [List.length_take] at hi
        rw [List.getElem_take] at e
        have := hb i (by omega)
        rw [e] at this
        simpa using this
      rw [h1]
      simp [hpk]
  · refine .inl ⟨ixOf_none fun j y hy => ?_, ?_⟩
    · cases hp : p y with
      | false => rfl
      | true => exact absurd ⟨j, y, hy, hp⟩ h
    · rw [List.filter_eq_self]
      intro x hx
      obtain ⟨j, hj, e⟩ := List.mem_iff_getElem.1 hx
      cases hp : p x with
      | false => rfl
      | true => exact absurd ⟨j, x, by rw [List.getElem?_eq_getElem hj, e], hp⟩ h
variable {w : World} {base : Nat} {v : Value} {l : List Hd}
set_option maxRecDepth 100000 in
set_option maxHeartbeats 4000000 in
theorem delete_any (ho : w.ownsRow base 57 4 v l.length (hrows l)) (hl : l.length ≤ 1000000) (wf : FuncId) (lb : Array Value) (p : Hd → Bool) (eg : ∀ args w, (callFunc wf args).run Tryd.prog w = .ok (.enter wf args) w)
    (hp : ∀ (x : Hd) (W : World), x ∈ l → Moves (fun k => v.ownBlock = some k) w W → Calls Tryd.prog wf (#[x.val] ++ lb) W fun e w' => e = .returned (.bool (p x)) ∧ Below W.heap.size W w') :
    Calls Tryd.prog 130 #[v, .func (.func wf) #[] lb] w fun e w' => ∃ v', e = .returned v' ∧ w'.ownsRow base 57 4 v' (l.filter fun x => !p x).length (hrows (l.filter fun x => !p x)) ∧ v'.ownBlock = v.ownBlock ∧ Moves (fun k => v.ownBlock = some k) w w' := by
  have hix := index_any ho hl wf lb p eg (fun x W hx hB => hp x W hx (Moves.of_below hB))
  rcases ixOf_cases p l with ⟨e1, e2⟩ | ⟨k0, x0, hx0, hp0, e1, e2⟩
  · rw [e1] at hix
    rw [e2]
    obtain ⟨av, cap, rfl⟩ := row_lens ho
    have HO := Lib.hid ho
    clear ho hp e2
    go_enter Tryd.func130, Tryd.ntmps130
    go_wp2_with (go_at_call 139; refine hix.mono ?_; clear hix; rintro e w1 ⟨rfl, hb1⟩)
    go_ret
    exact ⟨_, rfl, ownsRow_keep HO.out fun k hk => hb1.block k (HO.out.lt k hk).2, rfl, Moves.of_below hb1⟩
  · rw [e1] at hix
    have hk0 : k0 < l.length := (List.getElem?_eq_some_iff.1 hx0).1
    have hne1 : ((k0 : Int) == -1) = false := beq_eq_false_iff_ne.2 (by omega)
    obtain ⟨g, cap, rfl, hc⟩ := hrowcell ho hx0
    obtain ⟨hH, hcap, hbg⟩ := HRow.of ho
    have hgl : g < w.heap.size := (ho.lt g rfl).2
    have HH := Lib.hid hH
    have HP := Lib.hid hp
    have E2 := Lib.hid e2
    clear hc ho hH hp e2 hx0
    go_enter Tryd.func130, Tryd.ntmps130
    go_wp2_with (go_at_call 139; refine hix.mono ?_; clear hix; rintro e w1 ⟨rfl, hb1⟩)
    have HB1 := Lib.hid hb1
    clear hb1
    go_loopw [5, 6] (fun a c wr => ∃ (i j : Nat) (D : List Hd), a = .int .i64 (i : Int) ∧ c = .int .i64 (j : Int) ∧ i < j ∧ j ≤ l.length ∧ D.length = l.length ∧ HRow wr g (cap * 4) D ∧ D.take i = (l.take j).filter (fun x => !p x) ∧ (∀ k, j ≤ k → D[k]? = l[k]?) ∧ Moves (fun k => k = g) w wr) (fun _ c _ => l.length - (intOf c).toNat)
    case atStart => exact ⟨k0, k0 + 1, l, rfl, by go_num, by omega, by omega, rfl, HH.out.keep (HB1.out.block g hgl), E2.out.symm, fun _ _ => rfl, Moves.of_below HB1.out⟩
    case round =>
      obtain ⟨i, j, D, rfl, rfl, hij, hjn, hDn, hR, hT, hD, hM⟩ := hrel
      by_cases hlt : j < l.length
      · have e1 : decide ((j : Int) < (l.length : Int)) = true := by simpa using hlt
        have hjz : (j : Int) < (l.length : Int) := by omega
        have hiz : (i : Int) < (l.length : Int) := by omega
        obtain ⟨x, hx⟩ : ∃ x, l[j]? = some x := ⟨_, List.getElem?_eq_getElem hlt⟩
        have hxD : D[j]? = some x := (hD j (Nat.le_refl _)).trans hx
        have c0 := hR.c j x hxD 0 _ rfl
        have c1 := hR.c j x hxD 1 _ rfl
        have c2 := hR.c j x hxD 2 _ rfl
        have c3 := hR.c j x hxD 3 _ rfl
        rw [Nat.add_zero] at c0
        have hA : Moves (fun k => k = g) w (wr.alloc (.cells #[.int .i64 (x.a : Int), .int .i64 (x.b : Int), .int .i64 (x.c : Int), .int .i64 (x.m : Int)] 57)) := hM.alloc _
        have hRA : HRow (wr.alloc (.cells #[.int .i64 (x.a : Int), .int .i64 (x.b : Int), .int .i64 (x.c : Int), .int .i64 (x.m : Int)] 57)) g (cap * 4) D := hR.keep (Below.heap_alloc _ _ _ (by have := hM.size; omega))
        have hcall := HP.out x _ (List.mem_of_getElem? hx) (hA.mono fun k _ hk => by rw [hk]; rfl)
        unfold Hd.val at hcall
        have hf : (l.take (j + 1)).filter (fun x => !p x) = (l.take j).filter (fun x => !p x) ++ (if p x then [] else [x]) := by
          rw [List.take_succ_eq_append_getElem hlt, List.filter_append, show l[j] = x by rw [List.getElem?_eq_getElem hlt] at hx; exact Option.some.inj hx]
          cases hq : p x <;> simp [hq]
        have hwg : g < wr.heap.size := by have := hM.size; omega
        have HRA := Lib.hid hRA
        have HA := Lib.hid hA
        have HT := Lib.hid hT
        have HD := Lib.hid hD
        have HF := Lib.hid hf
        have HX := Lib.hid hxD
        clear hR hM hA hRA hT hD hf hx hxD
        cases hpx : p x with
        | true =>
          rw [hpx] at hcall
          go_wp2_with (go_at_fn wf; refine hcall.mono ?_; clear hcall; rintro e w2 ⟨rfl, hb2⟩)
          go_roundw
          case rel => exact ⟨i, j + 1, D, rfl, by go_num, by omega, by omega, hDn, HRA.out.keep (hb2.block g (by simp; omega)), by rw [HF.out, hpx, HT.out]; simp, fun k hk => HD.out k (by omega), HA.out.trans (Moves.of_below (F := fun _ => False) hb2) fun _ h => h.elim⟩
          case measure => simp [intOf]; omega
        | false =>
          rw [hpx] at hcall
          go_wp2_with (go_at_fn wf; refine hcall.mono ?_; clear hcall; rintro e w2 ⟨rfl, hb2⟩
                       have d0 : w2.cell? ⟨wr.heap.size, 0, none⟩ = some (.int .i64 (x.a : Int)) := (made_cell hb2 0).trans rfl
                       have d1 : w2.cell? ⟨wr.heap.size, 1, none⟩ = some (.int .i64 (x.b : Int)) := (made_cell hb2 1).trans rfl
                       have d2 : w2.cell? ⟨wr.heap.size, 2, none⟩ = some (.int .i64 (x.c : Int)) := (made_cell hb2 2).trans rfl
                       have d3 : w2.cell? ⟨wr.heap.size, 3, none⟩ = some (.int .i64 (x.m : Int)) := (made_cell hb2 3).trans rfl
                       have hR2 := HRA.out.keep (hb2.block g (by simp; omega))
                       obtain ⟨y, hy⟩ : ∃ y, D[i]? = some y := ⟨_, List.getElem?_eq_getElem (by omega)⟩
                       have t0 := hR2.c i y hy 0 _ rfl
                       have t1 := hR2.c i y hy 1 _ rfl
                       have t2 := hR2.c i y hy 2 _ rfl
                       have t3 := hR2.c i y hy 3 _ rfl
                       rw [Nat.add_zero] at t0
                       have f0 := hR2.s.fro (i * 4)
                       have f1 := hR2.s.fro (i * 4 + 1)
                       have f2 := hR2.s.fro (i * 4 + 2)
                       have f3 := hR2.s.fro (i * 4 + 3)
                       have HR2 := Lib.hid hR2
                       have HM2 := Lib.hid (HA.out.trans (Moves.of_below (F := fun _ => False) hb2) fun _ h => h.elim)
                       clear hR2 hb2 hy)
          go_roundw
          case rel =>
            refine ⟨i + 1, j + 1, D.set i x, by go_num, by go_num, by omega, by omega, by rw [List.length_set]; exact hDn, HR2.out.put i (by omega) x, ?_, fun k hk => ?_, ?_⟩
            · rw [HF.out, hpx, ← HT.out, List.take_succ_eq_append_getElem (by rw [List.length_set]; omega), List.getElem_set_self, List.take_set_of_le (Nat.le_refl _)]
              simp
            · rw [List.getElem?_set_ne (by omega)]; exact HD.out k (by omega)
            · exact Moves.setCell (F := fun k => k = g) (Moves.setCell (F := fun k => k = g) (Moves.setCell (F := fun k => k = g) (Moves.setCell (F := fun k => k = g) HM2.out ⟨g, _, none⟩ _ (.inl rfl)) ⟨g, _, none⟩ _ (.inl rfl)) ⟨g, _, none⟩ _ (.inl rfl)) ⟨g, _, none⟩ _ (.inl rfl)
          case measure => simp [intOf]; omega
      · have e1 : decide ((j : Int) < (l.length : Int)) = false := by simp; omega
        have ej : j = l.length := by omega
        subst ej
        obtain ⟨vs, hclr⟩ : ∃ vs, ∀ ty, (Builtin.clear_ #[47] ty #[.slice (some ⟨g, i * 4, none⟩) (l.length - i) (cap - i)]).run Tryd.prog wr = .ok (.tuple #[]) (wr.setCells g (i * 4) vs) := by
          have hz := (zero_of_info Tryd.infoHold2).1
          have hN := hR.n
          have h1 := fun ty => run_clear_holds (P := Tryd.prog) 47 57 ty (Hd.val ⟨0, 0, 0, 0⟩) Tryd.underlying47 hz rfl (fun v hv => one_hcells ⟨0, 0, 0, 0⟩ v (by simpa [Hd.val, Hd.cells, Value.cells] using hv)) (i * 4) (l.length - i) (cap - i) (by omega) hR.s (by omega)
          obtain ⟨vs, hvs⟩ := h1 0
          exact ⟨vs, fun ty => hvs⟩
        have hcut := hR.cut i vs (by omega)
        have hN := hR.n
        have hTn : D.take i = l.filter (fun x => !p x) := by rw [hT, List.take_length]
        have hin : (l.filter fun x => !p x).length = i := by rw [← hTn, List.length_take]; omega
        have hfin : (wr.setCells g (i * 4) vs).ownsRow base 57 4 (.slice (some ⟨g, 0, none⟩) i cap) i (hrows (l.filter fun x => !p x)) := by
          have := hcut.own rfl hcap hbg i (by rw [List.length_take]; omega)
          rwa [List.take_take, Nat.min_self, hTn] at this
        have hMf := Moves.setCells (F := fun k => k = g) hM g (i * 4) vs (.inl rfl)
        have hic : (i : Int) ≤ (cap : Int) := by omega
        have hil : (i : Int) ≤ (l.length : Int) := by omega
        have hlc : (l.length : Int) ≤ (cap : Int) := by omega
        have HFin := Lib.hid hfin
        have HMf := Lib.hid hMf
        have Hin := Lib.hid hin
        clear hcut hTn hin hfin hMf hT hR hM hD
        go_wp2_with fail
        go_ret
        exact ⟨_, rfl, by rw [Hin.out]; exact HFin.out, rfl, HMf.out.mono fun k _ hk => by rw [hk]; rfl⟩
end
end Go.Proofs.YtfjfkmoofmncnaaDoor
/- slices.Clone of holds, of strings. -/
namespace Go.Proofs.YtfjfkmoofmncnaaDoor
open Go.RowKit
theorem wpList_append_rows {P : Program} {w : World} {ops : Array Oper} {rest : List Oper} {o : Oper} {a : Act} {Q : Exit → Act → World → Prop} (hgd : o.guard = none) (s x : Operand) (t : TypeId)
    (ho : o.op = .call { callee := .builtin .append, args := #[s, x], argTypes := #[t, t] })
    (base : Nat) (e : TypeId) (i : TypeInfo) (z : Value) (size bytes : Nat) (ht : P.underlying t = some (.slice e)) (hi : P.info? e = some i) (hz : i.zero = some z)
    (hsize : i.size = size) (hby : i.bytes = bytes) (hzs : z.cells.size = size) (hsz : 0 < size)
    (v : Value) (n : Nat) (xs : List Value) (hs : a.eval s = v) (hown : w.ownsRow base e size v n xs)
    (u : Value) (b2 m : Nat) (news : List Value) (hx : a.eval x = u) (hu : w.ownsRow b2 e size u m news) (h1 : ∀ q ∈ news, q.oneCell' = true)
    (h63 : n + m ≤ maxLen) (hbytes : (n + m) * bytes ≤ 140737488355328) (hbase : base ≤ w.heap.size)
    (h : ∀ v' w', w'.ownsRow base e size v' (n + m) (xs ++ news) → w.grownBy w' v.ownBlock → (v'.ownBlock = v.ownBlock ∨ v'.ownBlock = some w.heap.size) → wpList P ops Q rest (a.put o.dst v') w') :
    wpList P ops Q (o :: rest) a w := by
  rcases hu.2 with ⟨rfl, rfl⟩ | ⟨g, cap, cur, rfl, _, _, _, _, _, _⟩
  · have hn : news = [] := List.length_eq_zero_iff.1 (by have := hu.1; simpa using this)
    subst hn
    refine wpList_append_own_none hgd s x t ho base e i size ht hi v n xs hs hown hx (h v w ?_ ⟨rfl, rfl, rfl, Nat.le_refl _, fun _ _ _ => rfl⟩ (.inl rfl))
    simpa using hown
  · exact wpList_append_own_at w hgd s x t ho base e i z size bytes ht hi hz hsize hby hzs hsz v n xs hs hown ⟨g, 0, none⟩ m cap news hx hu.1 (hu.cells rfl) h1 h63 hbytes hbase fun v' w' h2 h3 _ h5 => h v' w' h2 h3 h5
theorem Tryd.infoStr : (Tryd.prog.info? 9).map (fun i => (i.zero, i.size, i.bytes)) = some (some (.string ⟨#[]⟩), 1, 16) := by kernel_rfl
/-- Strings as cells. -/
def srows (l : List ByteArray) : List Value := l.map Value.string
theorem length_srows (l : List ByteArray) : (srows l).length = l.length := by simp [srows]
theorem one_srows (l : List ByteArray) : ∀ v ∈ srows l, v.oneCell' = true := by
  intro v hv
  obtain ⟨x, _, rfl⟩ := List.mem_map.1 hv
  rfl
section
variable {w : World}
set_option maxRecDepth 100000 in
set_option maxHeartbeats 1000000 in
/-- A row is copied: the copy lies apart. -/
theorem hclone_any {l : List Hd} {v : Value} {base : Nat} (h : w.ownsRow base 57 4 v l.length (hrows l)) (hl : l.length ≤ 1000000) :
    Calls Tryd.prog 42 #[v] w fun e w' => ∃ v', e = .returned v' ∧ w'.ownsRow w.heap.size 57 4 v' l.length (hrows l) ∧ Below w.heap.size w w' := by
  obtain ⟨i0, hi0, hz0, hz1, hz2⟩ := info_parts Tryd.infoHold
  have Hi := Lib.hid hi0
  have Hz := Lib.hid hz0
  have Hz1 := Lib.hid hz1
  have Hz2 := Lib.hid hz2
  clear hi0 hz0 hz1 hz2
  rcases ownsRow_form h with ⟨rfl, h1⟩ | ⟨g, cap, rfl, -, hg, -⟩
  · have e1 : l.length = 0 := h1.1
    have e2 : hrows l = [] := h1.2
    rw [e1, e2]
    clear h h1 e1 e2
    have hnil := fun W => Lib.run_eql_slice_nil_nil (P := Tryd.prog) W 0 0 Tryd.underlying47
    go_enter Tryd.func42, Tryd.ntmps42
    go_wp2_with fail
    go_ret
    exact ⟨_, rfl, World.ownsRow_nil _ _ _ _, Below.refl _ _⟩
  · have hoA := h.alloc (.cells #[] 57)
    have hown0 : (w.alloc (.cells #[] 57)).ownsRow w.heap.size 57 4 (.slice (some ⟨w.heap.size, 0, none⟩) 0 0) 0 [] := World.ownsRow_lit (base := w.heap.size) (size := 4) (e := 57) w #[] 0 (Nat.le_refl _) (by unfold maxLen; omega) rfl
    have hml : 0 + l.length ≤ maxLen := by unfold maxLen; omega
    have hbs : w.heap.size ≤ (w.alloc (.cells #[] 57)).heap.size := by simp
    have hnil := fun W => Lib.run_eql_slice_some_nil (P := Tryd.prog) W ⟨g, 0, none⟩ l.length cap Tryd.underlying47
    go_enter Tryd.func42, Tryd.ntmps42
    go_wp2_with (refine wpList_append_rows rfl (.tmp 5) (.tmp 6) 47 rfl w.heap.size 57 i0 _ 4 32 Tryd.underlying47 Hi.out Hz.out Hz1.out Hz2.out rfl (by decide) _ 0 [] rfl hown0 (.slice (some ⟨g, 0, none⟩) l.length cap) base l.length (hrows l) rfl hoA (one_hrows _) hml (by omega) hbs ?_)
    intro v' w1 hown1 hgrow hat
    have hb1 : Below w.heap.size w w1 := ⟨hgrow.os, hgrow.tape, hgrow.output, by have := hgrow.size; simp at this; omega, fun k hk => (hgrow.block k (by simp; omega) (by simp only [Value.ownBlock, ne_eq, Option.some.injEq]; omega)).trans (Below.heap_alloc _ _ _ hk)⟩
    have H1 := Lib.hid hown1
    clear hown1 hgrow hat hoA hown0
    go_wp2_with fail
    go_ret
    exact ⟨_, rfl, H1.out, hb1⟩
set_option maxRecDepth 100000 in
set_option maxHeartbeats 1000000 in
/-- A row is copied: the copy lies apart. -/
theorem sclone_any {l : List ByteArray} {v : Value} {base : Nat} (h : w.ownsRow base 9 1 v l.length (srows l)) (hl : l.length ≤ 1000000) :
    Calls Tryd.prog 35 #[v] w fun e w' => ∃ v', e = .returned v' ∧ w'.ownsRow w.heap.size 9 1 v' l.length (srows l) ∧ Below w.heap.size w w' := by
  obtain ⟨i0, hi0, hz0, hz1, hz2⟩ := info_parts Tryd.infoStr
  have Hi := Lib.hid hi0
  have Hz := Lib.hid hz0
  have Hz1 := Lib.hid hz1
  have Hz2 := Lib.hid hz2
  clear hi0 hz0 hz1 hz2
  rcases ownsRow_form h with ⟨rfl, h1⟩ | ⟨g, cap, rfl, -, hg, -⟩
  · have e1 : l.length = 0 := h1.1
    have e2 : srows l = [] := h1.2
    rw [e1, e2]
    clear h h1 e1 e2
    have hnil := fun W => Lib.run_eql_slice_nil_nil (P := Tryd.prog) W 0 0 Tryd.underlying43
    go_enter Tryd.func35, Tryd.ntmps35
    go_wp2_with fail
    go_ret
    exact ⟨_, rfl, World.ownsRow_nil _ _ _ _, Below.refl _ _⟩
  · have hoA := h.alloc (.cells #[] 9)
    have hown0 : (w.alloc (.cells #[] 9)).ownsRow w.heap.size 9 1 (.slice (some ⟨w.heap.size, 0, none⟩) 0 0) 0 [] := World.ownsRow_lit (base := w.heap.size) (size := 1) (e := 9) w #[] 0 (Nat.le_refl _) (by unfold maxLen; omega) rfl
    have hml : 0 + l.length ≤ maxLen := by unfold maxLen; omega
    have hbs : w.heap.size ≤ (w.alloc (.cells #[] 9)).heap.size := by simp
    have hnil := fun W => Lib.run_eql_slice_some_nil (P := Tryd.prog) W ⟨g, 0, none⟩ l.length cap Tryd.underlying43
    go_enter Tryd.func35, Tryd.ntmps35
    go_wp2_with (refine wpList_append_rows rfl (.tmp 5) (.tmp 6) 43 rfl w.heap.size 9 i0 _ 1 16 Tryd.underlying43 Hi.out Hz.out Hz1.out Hz2.out rfl (by decide) _ 0 [] rfl hown0 (.slice (some ⟨g, 0, none⟩) l.length cap) base l.length (srows l) rfl hoA (one_srows _) hml (by omega) hbs ?_)
    intro v' w1 hown1 hgrow hat
    have hb1 : Below w.heap.size w w1 := ⟨hgrow.os, hgrow.tape, hgrow.output, by have := hgrow.size; simp at this; omega, fun k hk => (hgrow.block k (by simp; omega) (by simp only [Value.ownBlock, ne_eq, Option.some.injEq]; omega)).trans (Below.heap_alloc _ _ _ hk)⟩
    have H1 := Lib.hid hown1
    clear hown1 hgrow hat hoA hown0
    go_wp2_with fail
    go_ret
    exact ⟨_, rfl, H1.out, hb1⟩
end
end Go.Proofs.YtfjfkmoofmncnaaDoor
/- lease: time, NewBook, Renew, Sweep. -/
namespace Go.Proofs.YtfjfkmoofmncnaaDoor
open Go.RowKit
def okT (n : Int) : Bool := decide (0 ≤ n) && decide (n ≤ 1099511627776)
theorem okT_iff (n : Int) : okT n = true ↔ 0 ≤ n ∧ n ≤ 1099511627776 := by simp [okT]
section
variable {w w' : World} {b : Nat} {K : Nat → Ent}
theorem IsBook.setS (h : IsBook w b K) (c : Nat) (x : Int) : IsBook (w.setCell ⟨b, c * 3 + 1, none⟩ (.int .i64 x)) b (updE K c ⟨(K c).till, x, (K c).dead⟩) := by
  refine ⟨fun i hi => ?_, fun i hi => ?_, fun i hi => ?_, fun o => by rw [World.frozen?_setCell]; exact h.fro o⟩
  · rw [oth_cell _ _ _ (by omega), h.t i hi]
    unfold updE
    split
    · subst_vars; rfl
    · rfl
  · by_cases e : i = c
    · subst e
      unfold updE
      rw [if_pos rfl]
      exact World.cell?_setCell_same _ _ _ (h.s i hi)
    · unfold updE
      rw [if_neg e, oth_cell _ _ _ (by omega)]
      exact h.s i hi
  · rw [oth_cell _ _ _ (by omega), h.d i hi]
    unfold updE
    split
    · subst_vars; rfl
    · rfl
set_option maxRecDepth 100000 in
theorem time_any (g cap : Nat) (P : List Int) (hl : P.length ≤ 1000) (h : ∀ k x, P[k]? = some x → w.cell? ⟨g, k, none⟩ = some (.int .i64 x)) : Calls Tryd.prog 149 #[.slice (some ⟨g, 0, none⟩) P.length cap] w fun e w' => e = .returned (.bool (P.all okT)) ∧ w = w' := by
  have H := Lib.hid h
  clear h
  go_enter Tryd.func149, Tryd.ntmps149
  go_wp2_with fail
  go_loopw [7] (fun p wr => ∃ k : Nat, k ≤ P.length ∧ p = .int .i64 (k : Int) ∧ (∀ j y, j < k → P[j]? = some y → okT y = true) ∧ wr = w) (fun p _ => P.length - (intOf p).toNat)
  case atStart => exact ⟨0, by omega, rfl, fun j y hj => absurd hj (by omega), rfl⟩
  case round =>
    obtain ⟨k, hk, rfl, hb, rfl⟩ := hrel
    by_cases hlt : k < P.length
    · have e0 : decide ((k : Int) < (P.length : Int)) = true := by simpa using hlt
      have hkz : (k : Int) < (P.length : Int) := by omega
      obtain ⟨x, hx⟩ : ∃ x, P[k]? = some x := ⟨_, List.getElem?_eq_getElem hlt⟩
      have hc := H.out k x hx
      have HX := Lib.hid hx
      have HB := Lib.hid hb
      clear hx hb
      have hbad : okT x = false → P.all okT = false := fun h => List.all_eq_false.2 ⟨x, List.mem_of_getElem? HX.out, by rw [h]; simp⟩
      by_cases h0 : x < 0
      · have e1 : decide (x < 0) = true := by simpa using h0
        have HG := Lib.hid (hbad (by simp [okT]; omega))
        clear hbad
        go_wp2_with fail
        go_ret
        exact ⟨by rw [HG.out]; rfl, rfl⟩
      · have e1 : decide (x < 0) = false := by simpa using h0
        by_cases h1 : 1099511627776 < x
        · have e2 : decide ((1099511627776 : Int) < x) = true := by simpa using h1
          have HG := Lib.hid (hbad (by simp [okT]; omega))
          clear hbad
          go_wp2_with fail
          go_ret
          exact ⟨by rw [HG.out]; rfl, rfl⟩
        · have e2 : decide ((1099511627776 : Int) < x) = false := by simpa using h1
          have HG := Lib.hid (show okT x = true by simp [okT]; omega)
          clear hbad
          go_wp2_with fail
          go_roundw
          case rel =>
            refine ⟨k + 1, by omega, by go_num, fun j y hj hy => ?_, by first | rfl | trivial⟩
            by_cases e : j = k
            · subst e; rw [HX.out] at hy; cases hy; exact HG.out
            · exact HB.out j y (by omega) hy
          case measure => simp [intOf]; omega
    · have e0 : decide ((k : Int) < (P.length : Int)) = false := by simp; omega
      have ha : P.all okT = true := List.all_eq_true.2 fun x hx => by
        obtain ⟨j, hj, e⟩ := List.mem_iff_getElem.1 hx
        exact hb j x (by omega) (by rw [List.getElem?_eq_getElem hj, e])
      have HG := Lib.hid ha
      clear ha hb
      go_wp2_with fail
      go_ret
      exact ⟨by rw [HG.out]; rfl, rfl⟩
/-- What Renew makes of a book. -/
def renewK (K : Nat → Ent) (c : Nat) (q n l : Int) : Nat → Ent :=
  if c < 8 ∧ 1 ≤ q ∧ q ≤ 1099511627776 ∧ okT n = true ∧ okT l = true ∧ (K c).dead = false ∧ (K c).seq < q ∧ okT (n + l) = true then updE K c ⟨max (K c).till (n + l), q, false⟩ else K
theorem made2 (w : World) (x y : Int) (T : TypeId) : ∀ k z, [x, y][k]? = some z → (w.alloc (.cells #[.int .i64 x, .int .i64 y] T)).cell? ⟨w.heap.size, k, none⟩ = some (.int .i64 z) := fun k z hk => by
  rw [World.cell?_alloc_new]
  rcases k with _ | _ | k
  · simp at hk ⊢; exact hk
  · simp at hk ⊢; exact hk
  · simp at hk
theorem made1 (w : World) (x : Int) (T : TypeId) : ∀ k z, [x][k]? = some z → (w.alloc (.cells #[.int .i64 x] T)).cell? ⟨w.heap.size, k, none⟩ = some (.int .i64 z) := fun k z hk => by
  rw [World.cell?_alloc_new]
  rcases k with _ | k
  · simp at hk ⊢; exact hk
  · simp at hk
def RenewPost (w : World) (b : Nat) (K' : Nat → Ent) (e : Ending) (w' : World) : Prop := (∃ n m : Int, e = .returned (.tuple #[.int .i64 n, .int .i64 m])) ∧ IsBook w' b K' ∧ Moves (fun k => k = b) w w'
set_option maxRecDepth 100000 in
set_option maxHeartbeats 2000000 in
theorem renew_any (h : IsBook w b K) (c : Nat) (q n l : Int) :
    Calls Tryd.prog 128 #[.pointer (some ⟨b, 0, none⟩), .int .i64 (c : Int), .int .i64 q, .int .i64 n, .int .i64 l] w (RenewPost w b (renewK K c q n l)) := by
  have H := Lib.hid h
  by_cases hc : c < 8
  case neg =>
    have ho := of_none (w := w) (b := b) (c : Int) (.inr (by omega))
    have hK : renewK K c q n l = K := by unfold renewK; rw [if_neg (fun h => hc h.1)]
    rw [hK]
    clear h
    go_enter Tryd.func128, Tryd.ntmps128
    go_wp2_with (go_at_call 132; refine ho.mono ?_; clear ho; rintro e w1 ⟨rfl, rfl⟩)
    go_ret2
    exact ⟨⟨_, _, rfl⟩, H.out, Moves.refl _ _⟩
  have ho := of_any (w := w) (b := b) c hc
  have t0 := h.t c hc
  have t1 := h.s c hc
  have t2 := h.d c hc
  have f0 := h.fro (c * 3)
  have f1 := h.fro (c * 3 + 1)
  have hbl := h.lt
  clear h
  by_cases h1 : q < 1
  · have e1 : decide (q < 1) = true := by simpa using h1
    have hK : renewK K c q n l = K := by unfold renewK; rw [if_neg (fun h => by have := h.2.1; omega)]
    rw [hK]
    go_enter Tryd.func128, Tryd.ntmps128
    go_wp2_with (go_at_call 132; refine ho.mono ?_; clear ho; rintro e w1 ⟨rfl, rfl⟩)
    go_ret2
    exact ⟨⟨_, _, rfl⟩, H.out, Moves.refl _ _⟩
  have e1 : decide (q < 1) = false := by simpa using h1
  by_cases h2 : 1099511627776 < q
  · have e2 : decide ((1099511627776 : Int) < q) = true := by simpa using h2
    have hK : renewK K c q n l = K := by unfold renewK; rw [if_neg (fun h => by have := h.2.2.1; omega)]
    rw [hK]
    go_enter Tryd.func128, Tryd.ntmps128
    go_wp2_with (go_at_call 132; refine ho.mono ?_; clear ho; rintro e w1 ⟨rfl, rfl⟩)
    go_ret2
    exact ⟨⟨_, _, rfl⟩, H.out, Moves.refl _ _⟩
  have e2 : decide ((1099511627776 : Int) < q) = false := by simpa using h2
  have ht := time_any (w := w.alloc (.cells #[.int .i64 n, .int .i64 l] 3)) w.heap.size 2 [n, l] (by simp) (made2 w n l _)
  have hall : [n, l].all okT = (okT n && okT l) := by simp
  rw [hall] at ht
  clear hall
  by_cases h3 : (okT n && okT l) = false
  · have hK : renewK K c q n l = K := by unfold renewK; rw [if_neg (fun h => by rw [h.2.2.2.1, h.2.2.2.2.1] at h3; cases h3)]
    rw [hK]
    rw [h3] at ht
    clear h3
    go_enter Tryd.func128, Tryd.ntmps128
    go_wp2_with (first | (go_at_call 132; refine ho.mono ?_; clear ho; rintro e w1 ⟨rfl, rfl⟩) | (go_at_call 149; refine ht.mono ?_; clear ht; rintro e w1 ⟨rfl, rfl⟩))
    go_ret2
    exact ⟨⟨_, _, rfl⟩, H.out.keep (Below.heap_alloc _ _ _ H.out.lt), (Moves.refl _ _).alloc _⟩
  have h3' : (okT n && okT l) = true := by simpa using h3
  rw [h3'] at ht
  rw [Bool.and_eq_true, okT_iff, okT_iff] at h3'
  clear h3
  have hw : wrap64 (n + l) = n + l := by unfold wrap64; omega
  have HB := Lib.hid ((Moves.refl (fun k => k = b) w).alloc (.cells #[.int .i64 n, .int .i64 l] 3))
  have HK1 := Lib.hid (H.out.keep (w' := w.alloc (.cells #[.int .i64 n, .int .i64 l] 3)) (Below.heap_alloc _ _ _ hbl))
  cases hd : (K c).dead with
  | true =>
    have hK : renewK K c q n l = K := by unfold renewK; rw [if_neg (fun h => by rw [h.2.2.2.2.2.1] at hd; cases hd)]
    rw [hK]
    have t2 := HK1.out.d c hc
    rw [hd] at t2
    clear hd
    go_enter Tryd.func128, Tryd.ntmps128
    go_wp2_with (first | (go_at_call 132; refine ho.mono ?_; clear ho; rintro e w1 ⟨rfl, rfl⟩) | (go_at_call 149; refine ht.mono ?_; clear ht; rintro e w1 ⟨rfl, rfl⟩))
    go_ret2
    exact ⟨⟨_, _, rfl⟩, HK1.out, HB.out⟩
  | false =>
  rw [hd] at t2
  by_cases h4 : q ≤ (K c).seq
  · have e4 : decide (q ≤ (K c).seq) = true := by simpa using h4
    have hK : renewK K c q n l = K := by unfold renewK; rw [if_neg (fun h => by have := h.2.2.2.2.2.2.1; omega)]
    rw [hK]
    have u1 := HK1.out.s c hc
    have u2 := HK1.out.d c hc
    rw [hd] at u2
    clear hd t0 t1 t2 f0 f1
    go_enter Tryd.func128, Tryd.ntmps128
    go_wp2_with (first | (go_at_call 132; refine ho.mono ?_; clear ho; rintro e w1 ⟨rfl, rfl⟩) | (go_at_call 149; refine ht.mono ?_; clear ht; rintro e w1 ⟨rfl, rfl⟩))
    go_ret2
    exact ⟨⟨_, _, rfl⟩, HK1.out, HB.out⟩
  have e4 : decide (q ≤ (K c).seq) = false := by simpa using h4
  have ht2 := time_any (w := (w.alloc (.cells #[.int .i64 n, .int .i64 l] 3)).alloc (.cells #[.int .i64 (n + l)] 3)) (w.alloc (.cells #[.int .i64 n, .int .i64 l] 3)).heap.size 1 [n + l] (by simp) (made1 _ (n + l) _)
  rw [show [n + l].all okT = okT (n + l) by simp, World.size_alloc] at ht2
  have HB2 := Lib.hid (HB.out.alloc (.cells #[.int .i64 (n + l)] 3))
  have HK2 := Lib.hid (HK1.out.keep (w' := (w.alloc (.cells #[.int .i64 n, .int .i64 l] 3)).alloc (.cells #[.int .i64 (n + l)] 3)) (Below.heap_alloc _ _ _ HK1.out.lt))
  have u1 := HK1.out.s c hc
  have u2 := HK1.out.d c hc
  have v0 := HK2.out.t c hc
  have v1 := HK2.out.s c hc
  have g0 := HK2.out.fro (c * 3)
  have g1 := HK2.out.fro (c * 3 + 1)
  rw [hd] at u2
  clear t0 t1 t2 f0 f1
  cases h5 : okT (n + l) with
  | false =>
    have hK : renewK K c q n l = K := by unfold renewK; rw [if_neg (fun h => by rw [h.2.2.2.2.2.2.2] at h5; cases h5)]
    rw [hK]
    rw [h5] at ht2
    clear hd h5
    go_enter Tryd.func128, Tryd.ntmps128
    go_wp2_with (first | (go_at_call 132; refine ho.mono ?_; clear ho; rintro e w1 ⟨rfl, rfl⟩) | (go_at_call 149; first | (refine ht.mono ?_; clear ht; rintro e w1 ⟨rfl, rfl⟩) | (refine ht2.mono ?_; clear ht2; rintro e w1 ⟨rfl, rfl⟩)))
    go_ret2
    exact ⟨⟨_, _, rfl⟩, HK2.out, HB2.out⟩
  | true =>
    have hK : renewK K c q n l = updE K c ⟨max (K c).till (n + l), q, false⟩ := by
      unfold renewK
      rw [if_pos ⟨hc, by omega, by omega, (okT_iff n).2 h3'.1, (okT_iff l).2 h3'.2, hd, by omega, h5⟩]
    rw [hK]
    rw [h5] at ht2
    clear h5
    go_enter Tryd.func128, Tryd.ntmps128
    go_wp2_with (first | (go_at_call 132; refine ho.mono ?_; clear ho; rintro e w1 ⟨rfl, rfl⟩) | (go_at_call 149; first | (refine ht.mono ?_; clear ht; rintro e w1 ⟨rfl, rfl⟩) | (refine ht2.mono ?_; clear ht2; rintro e w1 ⟨rfl, hw⟩; rw [hw] at v0 v1 g0 g1 HK2 HB2; clear hw)))
    all_goals
      go_ret2
      have hfin := fun (w1 : World) (h : IsBook w1 b K) => (h.setS c q).setT c (max (K c).till (n + l))
      have e5 : (updE K c ⟨(K c).till, q, (K c).dead⟩ c) = ⟨(K c).till, q, (K c).dead⟩ := by unfold updE; rw [if_pos rfl]
      rw [updE_twice, e5, hd] at hfin
      have hf := hfin _ HK2.out
      refine ⟨⟨_, _, rfl⟩, ?_, Moves.setCell (F := fun k => k = b) (Moves.setCell (F := fun k => k = b) HB2.out ⟨b, c * 3 + 1, none⟩ _ (.inl rfl)) ⟨b, c * 3, none⟩ _ (.inl rfl)⟩
      first
      | (rw [show max (K c).till (n + l) = n + l by omega] at hf ⊢; exact hf)
      | (rw [show max (K c).till (n + l) = (K c).till by omega] at hf ⊢; exact hf)
/-- What Sweep makes of a book. -/
def sweepK (K : Nat → Ent) (n : Int) (m : Nat) (i : Nat) : Ent := if i < m ∧ 0 ≤ (K i).till ∧ (K i).till < n ∧ (K i).dead = false then ⟨(K i).till, (K i).seq, true⟩ else K i
theorem sweepK_off (K : Nat → Ent) (n : Int) (m : Nat) (h : ¬ (0 ≤ (K m).till ∧ (K m).till < n ∧ (K m).dead = false)) : sweepK K n (m + 1) = sweepK K n m := by
  funext i
  unfold sweepK
  by_cases e : i = m
  · subst e; rw [if_neg (fun h' => h h'.2), if_neg (fun h' => h h'.2)]
  · by_cases h1 : i < m ∧ 0 ≤ (K i).till ∧ (K i).till < n ∧ (K i).dead = false
    · rw [if_pos h1, if_pos ⟨by omega, h1.2⟩]
    · rw [if_neg h1, if_neg (fun h2 => h1 ⟨by omega, h2.2⟩)]
theorem sweepK_on (K : Nat → Ent) (n : Int) (m : Nat) (h : 0 ≤ (K m).till ∧ (K m).till < n ∧ (K m).dead = false) : sweepK K n (m + 1) = updE (sweepK K n m) m ⟨(K m).till, (K m).seq, true⟩ := by
  funext i
  unfold sweepK updE
  by_cases e : i = m
  · subst e; rw [if_pos ⟨by omega, h⟩, if_pos rfl]
  · rw [if_neg e]
    dsimp only
    by_cases h1 : i < m ∧ 0 ≤ (K i).till ∧ (K i).till < n ∧ (K i).dead = false
    · rw [if_pos h1, if_pos ⟨by omega, h1.2⟩]
    · rw [if_neg h1, if_neg (fun h2 => h1 ⟨by omega, h2.2⟩)]
theorem Tryd.infoI : (Tryd.prog.info? 3).map (fun i => (i.zero, i.size, i.bytes)) = some (some (.int .i64 0), 1, 8) := by kernel_rfl
set_option maxRecDepth 100000 in
set_option maxHeartbeats 4000000 in
theorem sweep_any (h : IsBook w b K) (n : Int) : Calls Tryd.prog 129 #[.pointer (some ⟨b, 0, none⟩), .int .i64 n] w fun e w' => (∃ v, e = .returned v ∧ ∃ k xs, w'.ownsRow w.heap.size 3 1 v k xs) ∧ IsBook w' b (sweepK K n 8) ∧ Moves (fun k => k = b) w w' := by
  obtain ⟨i0, hi0, hz0, hz1, hz2⟩ := info_parts Tryd.infoI
  have Hi := Lib.hid hi0
  have Hz := Lib.hid hz0
  have Hz1 := Lib.hid hz1
  have Hz2 := Lib.hid hz2
  clear hi0 hz0 hz1 hz2
  have hbl := h.lt
  have H := Lib.hid h
  clear h
  go_enter Tryd.func129, Tryd.ntmps129
  go_wp2_with fail
  go_loopw [5, 8] (fun v p wr => ∃ (c k : Nat) (xs : List Value), c ≤ 8 ∧ k ≤ c ∧ p = .int .i64 (c : Int) ∧ wr.ownsRow w.heap.size 3 1 v k xs ∧ IsBook wr b (sweepK K n c) ∧ Moves (fun k => k = b) w wr) (fun _ p _ => 8 - (intOf p).toNat)
  case atStart => exact ⟨0, 0, [], by omega, by omega, rfl, World.ownsRow_nil _ _ _ _, by rw [show sweepK K n 0 = K by funext i; unfold sweepK; rw [if_neg (by omega)]]; exact H.out, Moves.refl _ _⟩
  case round =>
    obtain ⟨c, k, xs, hc, hk, rfl, ho, hB, hM⟩ := hrel
    by_cases hlt : c < 8
    · have hc8 : (c : Int) < 8 := by omega
      have e0 : decide ((c : Int) < 8) = true := by simpa using hc8
      obtain ⟨av, cap, rfl⟩ := row_lens ho
      have hs : sweepK K n c c = K c := by unfold sweepK; rw [if_neg (by omega)]
      have t0 := hB.t c hlt
      have t2 := hB.d c hlt
      rw [hs] at t0 t2
      have f2 := hB.fro (c * 3 + 2)
      have HO := Lib.hid ho
      have HB := Lib.hid hB
      have HM := Lib.hid hM
      clear ho hB hM
      by_cases h1 : 0 ≤ (K c).till
      · have e1 : decide (0 ≤ (K c).till) = true := by simpa using h1
        by_cases h2 : (K c).till < n
        · have e2 : decide ((K c).till < n) = true := by simpa using h2
          cases hd : (K c).dead with
          | true =>
            rw [hd] at t2
            have HS := Lib.hid (sweepK_off K n c (by rw [hd]; simp))
            clear hd hs
            go_wp2_with fail
            go_roundw
            case rel => exact ⟨c + 1, k, xs, by omega, by omega, by go_num, HO.out, by rw [HS.out]; exact HB.out, HM.out⟩
            case measure => simp [intOf]; omega
          | false =>
            rw [hd] at t2
            have hs3 := sweepK_on K n c ⟨h1, h2, hd⟩
            have hset := HB.out.setD c true
            rw [hs, ← hs3] at hset
            have hMs : Moves (fun k => k = b) w (wr.setCell ⟨b, c * 3 + 2, none⟩ (.bool true)) := Moves.setCell (F := fun k => k = b) HM.out ⟨b, c * 3 + 2, none⟩ _ (.inl rfl)
            have hob : ∀ q, (Value.slice av k cap).ownBlock = some q → q ≠ b := fun q hq e => by have := (HO.out.lt q hq).1; omega
            have hoS : (wr.setCell ⟨b, c * 3 + 2, none⟩ (.bool true)).ownsRow w.heap.size 3 1 (.slice av k cap) k xs := ownsRow_setCell HO.out _ _ fun e => hob _ e rfl
            clear hd hs hs3
            have hMA := hMs.alloc (.cells #[.int .i64 (c : Int)] 3)
            have hoA := World.ownsRow.alloc hoS (.cells #[.int .i64 (c : Int)] 3)
            have hMg : ∀ w5, ((wr.setCell ⟨b, c * 3 + 2, none⟩ (.bool true)).alloc (.cells #[.int .i64 (c : Int)] 3)).grownBy w5 (Value.slice av k cap).ownBlock → IsBook w5 b (sweepK K n (c + 1)) ∧ Moves (fun k => k = b) w w5 := fun w5 hg => by
              have hb5 := hg.block b (by simp; have := HB.out.lt; omega) (fun e => hob b e.symm rfl)
              refine ⟨(hset.keep (Below.heap_alloc _ _ _ (by simp; exact HB.out.lt))).keep hb5, hMA.grown hg fun q hq => .inr (HO.out.lt q hq).1⟩
            have hbs : w.heap.size ≤ ((wr.setCell ⟨b, c * 3 + 2, none⟩ (.bool true)).alloc (.cells #[.int .i64 (c : Int)] 3)).heap.size := hMA.size
            have hcl : ∀ j u, [Value.int .i64 (c : Int)][j]? = some u → ((wr.setCell ⟨b, c * 3 + 2, none⟩ (.bool true)).alloc (.cells #[.int .i64 (c : Int)] 3)).cell? ((⟨wr.heap.size, 0, none⟩ : Addr).add j) = some u := fun j u hj => by
              have h0 := World.cell?_alloc_new (wr.setCell ⟨b, c * 3 + 2, none⟩ (.bool true)) #[.int .i64 (c : Int)] 3 j
              rw [World.size_setCell] at h0
              rw [Addr.add_mid, Nat.zero_add, h0]
              simpa using hj
            have HOA := Lib.hid hoA
            have HMg := Lib.hid hMg
            have Hcl := Lib.hid hcl
            clear hset hMs hob hoS hMA hoA hMg hcl
            go_wp2_with (refine wpList_append_own_at _ rfl (.tmp 39) (.tmp 41) 53 rfl w.heap.size 3 i0 _ 1 8 Tryd.underlying53 Hi.out Hz.out Hz1.out Hz2.out rfl (by decide) _ k xs rfl HOA.out ⟨wr.heap.size, 0, none⟩ 1 1 [.int .i64 (c : Int)] rfl rfl Hcl.out (by simp [Value.oneCell']) (by unfold maxLen; omega) (by omega) hbs ?_)
            intro v5 w5 hown5 hgrow _ _
            obtain ⟨hb5, hm5⟩ := HMg.out w5 hgrow
            have HB5 := Lib.hid hb5
            have HM5 := Lib.hid hm5
            have HO5 := Lib.hid hown5
            clear hgrow hb5 hm5 hown5
            go_wp2_with fail
            go_roundw
            case rel => exact ⟨c + 1, k + 1, _, by omega, by omega, by go_num, HO5.out, HB5.out, HM5.out⟩
            case measure => simp [intOf]; omega
        · have e2 : decide ((K c).till < n) = false := by simpa using h2
          have HS := Lib.hid (sweepK_off K n c (by omega))
          clear hs
          go_wp2_with fail
          go_roundw
          case rel => exact ⟨c + 1, k, xs, by omega, by omega, by go_num, HO.out, by rw [HS.out]; exact HB.out, HM.out⟩
          case measure => simp [intOf]; omega
      · have e1 : decide (0 ≤ (K c).till) = false := by simpa using h1
        have HS := Lib.hid (sweepK_off K n c (by omega))
        clear hs
        go_wp2_with fail
        go_roundw
        case rel => exact ⟨c + 1, k, xs, by omega, by omega, by go_num, HO.out, by rw [HS.out]; exact HB.out, HM.out⟩
        case measure => simp [intOf]; omega
    · have e0 : decide ((c : Int) < 8) = false := by simp; omega
      have ec : c = 8 := by omega
      subst ec
      have HO := Lib.hid ho
      have HB := Lib.hid hB
      have HM := Lib.hid hM
      clear ho hB hM
      go_wp2_with fail
      go_ret
      exact ⟨⟨_, rfl, _, _, HO.out⟩, HB.out, HM.out⟩
theorem IsBook.same {K' : Nat → Ent} (h : IsBook w b K) (he : ∀ c, c < 8 → K c = K' c) : IsBook w b K' := ⟨fun c hc => by rw [← he c hc]; exact h.t c hc, fun c hc => by rw [← he c hc]; exact h.s c hc, fun c hc => by rw [← he c hc]; exact h.d c hc, h.fro⟩
def zBook : List Value := (List.replicate 8 [.int .i64 0, .int .i64 0, .bool false]).flatten
theorem Tryd.infoBook : (Tryd.prog.info? 131).map (fun i => (i.zero, i.size)) = some (some (.agg zBook.toArray), 24) := by kernel_rfl
def newK (m : Nat) (i : Nat) : Ent := if i < m then ⟨-1, 0, false⟩ else ⟨0, 0, false⟩
theorem newK_succ (m : Nat) : newK (m + 1) = updE (newK m) m ⟨-1, 0, false⟩ := by
  funext i
  unfold newK updE
  by_cases e : i = m
  · rw [if_pos e, if_pos (by omega)]
  · rw [if_neg e]
    dsimp only
    by_cases h : i < m
    · rw [if_pos h, if_pos (by omega)]
    · rw [if_neg h, if_neg (by omega)]
set_option maxRecDepth 100000 in
theorem newbook_any : Calls Tryd.prog 16 #[] w fun e w' => e = .returned (.pointer (some ⟨w.heap.size, 0, none⟩)) ∧ IsBook w' w.heap.size (fun _ => ⟨-1, 0, false⟩) ∧ Below w.heap.size w w' := by
  have hz := (zero_of_info Tryd.infoBook).1
  have h0 : IsBook (w.alloc (.cells zBook.toArray 131)) w.heap.size (newK 0) := by
    have hc : ∀ c j u, c < 8 → [Value.int .i64 0, .int .i64 0, .bool false][j]? = some u → (w.alloc (.cells zBook.toArray 131)).cell? ⟨w.heap.size, c * 3 + j, none⟩ = some u := fun c j u hc hj => by
      rw [World.cell?_alloc_new, List.getElem?_toArray]
      have hj3 : j < 3 := (List.getElem?_eq_some_iff.1 hj).1
      rcases (by omega : c = 0 ∨ c = 1 ∨ c = 2 ∨ c = 3 ∨ c = 4 ∨ c = 5 ∨ c = 6 ∨ c = 7) with rfl | rfl | rfl | rfl | rfl | rfl | rfl | rfl <;>
      rcases (by omega : j = 0 ∨ j = 1 ∨ j = 2) with rfl | rfl | rfl <;> exact hj
    exact ⟨fun c h => hc c 0 _ h rfl, fun c h => hc c 1 _ h rfl, fun c h => hc c 2 _ h rfl, fun o => World.frozen?_alloc_new _ _ _ _⟩
  have hb0 : Below w.heap.size w (w.alloc (.cells zBook.toArray 131)) := (Below.refl _ _).alloc (Nat.le_refl _) _
  have H0 := Lib.hid h0
  have HB0 := Lib.hid hb0
  clear h0 hb0
  go_enter Tryd.func16, Tryd.ntmps16
  go_wp2_with fail
  go_loopw [5] (fun p wr => ∃ c : Nat, c ≤ 8 ∧ p = .int .i64 (c : Int) ∧ IsBook wr w.heap.size (newK c) ∧ Below w.heap.size w wr) (fun p _ => 8 - (intOf p).toNat)
  case atStart => exact ⟨0, by omega, rfl, H0.out, HB0.out⟩
  case round =>
    obtain ⟨c, hc, rfl, hB, hM⟩ := hrel
    by_cases hlt : c < 8
    · have hc8 : (c : Int) < 8 := by omega
      have e0 : decide ((c : Int) < 8) = true := by simpa using hc8
      have t0 := hB.t c hlt
      have f0 := hB.fro (c * 3)
      have hset := hB.setT c (-1)
      have hk : newK c c = ⟨0, 0, false⟩ := by unfold newK; rw [if_neg (by omega)]
      rw [hk, ← newK_succ] at hset
      have HS := Lib.hid hset
      have HM := Lib.hid (hM.setCell (p := ⟨w.heap.size, c * 3, none⟩) (Nat.le_refl _) (.int .i64 (-1)))
      clear hB hM hset hk
      go_wp2_with fail
      go_roundw
      case rel => exact ⟨c + 1, by omega, by go_num, HS.out, HM.out⟩
      case measure => simp [intOf]; omega
    · have e0 : decide ((c : Int) < 8) = false := by simp; omega
      have ec : c = 8 := by omega
      subst ec
      have HS := Lib.hid (hB.same fun i hi => show newK 8 i = ⟨-1, 0, false⟩ by unfold newK; rw [if_pos hi])
      have HM := Lib.hid hM
      clear hB hM
      go_wp2_with fail
      go_ret
      exact ⟨rfl, HS.out, HM.out⟩
end
end Go.Proofs.YtfjfkmoofmncnaaDoor
/- The service of locks as plain data: what each command makes of it. -/
namespace Go.Proofs.YtfjfkmoofmncnaaDoor
structure GS where
  R : Nat → Nat → Nat
  B : Nat → Ent
  wait : List Hd
  last : Nat
  by' : Nat → Option Nat
structure Cm where
  kind : Nat
  client : Nat
  seq : Nat
  now : Nat
  len : Nat
  a : Nat
  b : Nat
  mode : Nat
  other : Nat
def deadB (B : Nat → Ent) (c : Nat) : Bool := decide (c < 8) && (B c).dead
def livesB (B : Nat → Ent) (c : Nat) : Bool := decide (c < 8) && !(B c).dead && decide (0 ≤ (B c).till)
def clashB (x y : Hd) : Bool := decide (x.c ≠ y.c) && decide (max x.a y.a < min x.b y.b) && decide (max x.m y.m = 2)
def agB (R : Nat → Nat → Nat) (x : Hd) : Bool := decide (0 < (someOf R x.a x.b (agP x) 8).length)
/-- Nothing that is held, and nothing of a list, stands against it. -/
def freeB (R : Nat → Nat → Nat) (x : Hd) (l : List Hd) : Bool := !(l.any fun o => clashB o x) && !(agB R x)
def fitsB (R : Nat → Nat → Nat) (x : Hd) : Bool := decide ((holdsOf (putR R x)).length ≤ 256)
/-- One that waits: it is given, or it waits on. -/
def serveStep (s : (Nat → Nat → Nat) × Nat × List Hd) (x : Hd) : (Nat → Nat → Nat) × Nat × List Hd :=
  if s.2.1 < 1099511627776 ∧ freeB s.1 x s.2.2 = true ∧ fitsB s.1 x = true then (putR s.1 x, s.2.1 + 1, s.2.2) else (s.1, s.2.1, s.2.2 ++ [x])
def GS.serve (s : GS) : GS :=
  let t := s.wait.foldl serveStep (s.R, s.last, [])
  ⟨t.1, s.B, t.2.2, t.2.1, s.by'⟩
def Cm.hd (c : Cm) : Hd := ⟨c.a, c.b, c.client, c.mode⟩
def GS.ask (s : GS) (c : Cm) : GS :=
  if c.client < 8 ∧ (c.mode = 1 ∨ c.mode = 2) ∧ c.a < c.b ∧ c.b ≤ 256 ∧ livesB s.B c.client = true ∧ (s.wait.any fun o => decide (o.c = c.client)) = false ∧ s.last < 1099511627776 then
    if freeB s.R c.hd s.wait = true then (if fitsB s.R c.hd = true then ⟨putR s.R c.hd, s.B, s.wait, s.last + 1, s.by'⟩ else s)
    else if s.wait.length < 32 then ⟨s.R, s.B, s.wait ++ [c.hd], s.last, s.by'⟩ else s
  else s
def GS.release (s : GS) (c : Cm) : GS := if c.client < 8 then GS.serve ⟨setR s.R c.client c.a c.b (fun _ => 0), s.B, s.wait, s.last, s.by'⟩ else s
def GS.weaken (s : GS) (c : Cm) : GS := if c.client < 8 then GS.serve ⟨setR s.R c.client c.a c.b (fun m => min m 1), s.B, s.wait, s.last, s.by'⟩ else s
def GS.renew (s : GS) (c : Cm) : GS := ⟨s.R, renewK s.B c.client c.seq c.now c.len, s.wait, s.last, s.by'⟩
def GS.sweep (s : GS) (c : Cm) : GS := GS.serve ⟨s.R, sweepK s.B c.now 8, s.wait.filter (fun x => !deadB (sweepK s.B c.now 8) x.c), s.last, s.by'⟩
def GS.recov (s : GS) (c : Cm) : Bool := livesB s.B c.client && deadB s.B c.other
def updO (f : Nat → Option Nat) (i : Nat) (x : Option Nat) (j : Nat) : Option Nat := if j = i then x else f j
/-- Another one that lives recovers it. -/
def GS.heldB (s : GS) (c : Cm) : Bool := match s.by' c.other with
  | some x => decide (x ≠ c.client) && livesB s.B x
  | none => false
def GS.recover (s : GS) (c : Cm) : GS := if s.recov c = true ∧ s.heldB c = false then ⟨s.R, s.B, s.wait, s.last, updO s.by' c.other (some c.client)⟩ else s
def GS.done (s : GS) (c : Cm) : GS :=
  if s.recov c = true ∧ s.by' c.other = some c.client then GS.serve ⟨setR s.R c.other 0 256 (fun _ => 0), updE s.B c.other ⟨-1, (s.B c.other).seq, false⟩, s.wait, s.last, updO s.by' c.other none⟩ else s
def GS.cancel (s : GS) (c : Cm) : GS :=
  if c.client < 8 ∧ (s.wait.filter fun x => !decide (x.c = c.client)).length ≠ s.wait.length then GS.serve ⟨s.R, s.B, s.wait.filter (fun x => !decide (x.c = c.client)), s.last, s.by'⟩ else s
def GS.do (s : GS) (c : Cm) : GS := match c.kind with
  | 1 => s.ask c
  | 2 => s.release c
  | 3 => s.weaken c
  | 4 => s.renew c
  | 5 => s.sweep c
  | 6 => s.recover c
  | 7 => s.done c
  | 8 => s.cancel c
  | _ => s
def GS.new : GS := ⟨fun _ _ => 0, fun _ => ⟨-1, 0, false⟩, [], 0, fun _ => none⟩
/-- A hold that is one. -/
structure HdOk (x : Hd) : Prop where
  c : x.c < 8
  m : x.m = 1 ∨ x.m = 2
  ab : x.a < x.b
  b : x.b ≤ 256
structure GS.Ok (s : GS) : Prop where
  R : Small s.R
  w : ∀ x ∈ s.wait, HdOk x
  n : s.wait.length ≤ 32
  l : s.last ≤ 1099511627776
  y : ∀ i x, s.by' i = some x → x < 8
theorem small_set {R : Nat → Nat → Nat} (h : Small R) (c a z : Nat) (g : Nat → Nat) (hg : ∀ m, m ≤ 2 → g m ≤ 2) : Small (setR R c a z g) := fun i k hi hk => by
  unfold setR
  have := h i k hi hk
  split
  · exact hg _ this
  · exact this
theorem small_put {R : Nat → Nat → Nat} (h : Small R) (x : Hd) (hm : x.m ≤ 2) : Small (putR R x) := small_set h _ _ _ _ fun m hm' => by show max m x.m ≤ 2; omega
theorem HdOk.m2 {x : Hd} (h : HdOk x) : x.m ≤ 2 := by rcases h.m with e | e <;> omega
/-- What serve's fold keeps. -/
theorem serve_fold : ∀ (l : List Hd) (s : (Nat → Nat → Nat) × Nat × List Hd), Small s.1 → s.2.1 ≤ 1099511627776 → (∀ x ∈ l, HdOk x) → (∀ x ∈ s.2.2, HdOk x) →
    Small (l.foldl serveStep s).1 ∧ (l.foldl serveStep s).2.1 ≤ 1099511627776 ∧ (∀ x ∈ (l.foldl serveStep s).2.2, HdOk x) ∧ (l.foldl serveStep s).2.2.length ≤ s.2.2.length + l.length
  | [], s, h1, h2, _, h4 => ⟨h1, h2, h4, by simp⟩
  | x :: l, s, h1, h2, h3, h4 => by
    rw [List.foldl_cons]
    have hx := h3 x (List.mem_cons_self ..)
    by_cases hs : s.2.1 < 1099511627776 ∧ freeB s.1 x s.2.2 = true ∧ fitsB s.1 x = true
    · have e : serveStep s x = (putR s.1 x, s.2.1 + 1, s.2.2) := by unfold serveStep; rw [if_pos hs]
      rw [e]
      obtain ⟨a, b, c, d⟩ := serve_fold l (putR s.1 x, s.2.1 + 1, s.2.2) (small_put h1 x hx.m2) (by show s.2.1 + 1 ≤ _; omega) (fun y hy => h3 y (List.mem_cons_of_mem _ hy)) h4
      exact ⟨a, b, c, by rw [List.length_cons]; have : (s.2.2).length + l.length ≤ _ := Nat.le_refl _; simp only at d; omega⟩
    · have e : serveStep s x = (s.1, s.2.1, s.2.2 ++ [x]) := by unfold serveStep; rw [if_neg hs]
      rw [e]
      obtain ⟨a, b, c, d⟩ := serve_fold l (s.1, s.2.1, s.2.2 ++ [x]) h1 h2 (fun y hy => h3 y (List.mem_cons_of_mem _ hy)) (fun y hy => by
        rcases List.mem_append.1 hy with h | h
        · exact h4 y h
        · simp at h; subst h; exact hx)
      refine ⟨a, b, c, ?_⟩
      simp only [List.length_append, List.length_cons, List.length_nil] at d ⊢
      omega
theorem GS.Ok.serve {s : GS} (h : s.Ok) : s.serve.Ok := by
  obtain ⟨a, b, c, d⟩ := serve_fold s.wait (s.R, s.last, []) h.R h.l h.w (fun x hx => by simp at hx)
  refine ⟨a, c, ?_, b, h.y⟩
  have := h.n
  simp only [List.length_nil] at d
  show (s.wait.foldl serveStep (s.R, s.last, [])).2.2.length ≤ 32
  omega
theorem GS.Ok.sub {s : GS} (h : s.Ok) {R : Nat → Nat → Nat} (hR : Small R) (B : Nat → Ent) (p : Hd → Bool) {y : Nat → Option Nat} (hy : ∀ i x, y i = some x → x < 8) : (GS.mk R B (s.wait.filter p) s.last y).Ok :=
  ⟨hR, fun x hx => h.w x (List.mem_filter.1 hx).1, Nat.le_trans (List.length_filter_le _ _) h.n, h.l, hy⟩
theorem GS.Ok.with {s : GS} (h : s.Ok) {R : Nat → Nat → Nat} (hR : Small R) (B : Nat → Ent) {y : Nat → Option Nat} (hy : ∀ i x, y i = some x → x < 8) : (GS.mk R B s.wait s.last y).Ok :=
  ⟨hR, h.w, h.n, h.l, hy⟩
theorem updO_lt {f : Nat → Option Nat} (h : ∀ i x, f i = some x → x < 8) (i : Nat) (o : Option Nat) (ho : ∀ x, o = some x → x < 8) : ∀ j x, updO f i o j = some x → x < 8 := fun j x hj => by
  unfold updO at hj
  split at hj
  · exact ho x hj
  · exact h j x hj
theorem livesB_lt {B : Nat → Ent} {c : Nat} (h : livesB B c = true) : c < 8 := by
  unfold livesB at h
  simp at h
  exact h.1.1
theorem GS.Ok.do {s : GS} (h : s.Ok) (c : Cm) : (s.do c).Ok := by
  unfold GS.do
  split
  · unfold GS.ask
    split
    · rename_i hg
      obtain ⟨g1, g2, g3, g4, g5, g6, g7⟩ := hg
      have hx : HdOk c.hd := ⟨g1, g2, g3, g4⟩
      split
      · split
        · exact ⟨small_put h.R _ hx.m2, h.w, h.n, by show s.last + 1 ≤ _; omega, h.y⟩
        · exact h
      · split
        · rename_i h32
          refine ⟨h.R, fun x hx' => ?_, by show (s.wait ++ [c.hd]).length ≤ 32; simp; omega, h.l, h.y⟩
          rcases List.mem_append.1 hx' with h' | h'
          · exact h.w x h'
          · simp at h'; subst h'; exact hx
        · exact h
    · exact h
  · unfold GS.release
    split
    · exact (h.with (small_set h.R _ _ _ _ fun _ _ => by omega) _ h.y).serve
    · exact h
  · unfold GS.weaken
    split
    · exact (h.with (small_set h.R _ _ _ _ fun m _ => by show min m 1 ≤ 2; omega) _ h.y).serve
    · exact h
  · exact h.with h.R _ h.y
  · exact (h.sub h.R _ _ h.y).serve
  · unfold GS.recover
    split
    · rename_i hg
      refine h.with h.R _ (updO_lt h.y _ _ fun x hx => ?_)
      cases hx
      have := hg.1
      unfold GS.recov at this
      rw [Bool.and_eq_true] at this
      exact livesB_lt this.1
    · exact h
  · unfold GS.done
    split
    · exact (h.with (small_set h.R _ _ _ _ fun _ _ => by omega) _ (updO_lt h.y _ _ fun x hx => by cases hx)).serve
    · exact h
  · unfold GS.cancel
    split
    · exact (h.sub h.R _ _ h.y).serve
    · exact h
  · exact h
theorem GS.Ok.new : GS.new.Ok := ⟨fun _ _ _ _ => by show 0 ≤ 2; omega, fun x hx => by simp [GS.new] at hx, by simp [GS.new], by show 0 ≤ _; omega, fun i x hx => by cases hx⟩
end Go.Proofs.YtfjfkmoofmncnaaDoor
