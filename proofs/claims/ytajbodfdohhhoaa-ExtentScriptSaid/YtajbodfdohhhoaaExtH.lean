/- Insert of one range. -/
import Derived.Test.YtajbodfdohhhoaaExtG
import Derived.Lib.Overlaps
import Derived.Laws.Externs
namespace Go.Proofs.Ytajbodfdohhhoaa
open Go.RowKit
section
variable {P : Program} {ops : Array Oper} {rest : List Oper} {o : Oper} {a : Act} {w : World} {K : Act → World → Prop} {Q : Exit → Act → World → Prop}
/-- copy, where its run is known. -/
theorem wpList_copy_known (hgd : o.guard = none) (d s : Operand) (t t' : TypeId) (ho : o.op = .call { callee := .builtin .copy, args := #[d, s], argTypes := #[t, t'] }) (v u : Value) (hd : a.eval d = v) (hs : a.eval s = u) (x : Value) (w' : World)
    (hr : (Builtin.copy_ #[t, t'] o.type #[v, u]).run P w = .ok x w') (h : wpList P ops Q rest (a.put o.dst x) w') : wpList P ops Q (o :: rest) a w := by
  refine wpList_plain hgd fun K hK => ?_
  unfold Oper.wp execOp
  simp only [ho, resolve, invoke, builtin, Sem.run_bind, Sem.run_pure, Result.andThen_ok, List.map_toArray, List.map_cons, List.map_nil, hd, hs, hr]
  exact hK _ _ h
theorem step_copy_known {E : Prop} (hg : o.guard = none) (d s : Operand) (t t' : TypeId) (ho : o.op = Op.call { callee := Callee.builtin Builtin.copy, args := #[d, s], argTypes := #[t, t'] }) (v u : Value) (hd : a.eval d = v) (hs : a.eval s = u) (x : Value) (w' : World)
    (hr : (Builtin.copy_ #[t, t'] o.type #[v, u]).run P w = .ok x w') (h : K (a.put o.dst x) w') : if Region.wanted o (yielded ops a.tmps) = true then Oper.wp P o a w K Q else E := by
  rw [if_pos (by simp [Region.wanted, hg])]
  unfold Oper.wp execOp
  simp only [ho, resolve, invoke, builtin, Sem.run_bind, Sem.run_pure, Result.andThen_ok, List.map_toArray, List.map_cons, List.map_nil, hd, hs, hr]
  exact h
end
theorem over_comm (cur : List Value) (o1 : Nat) (v1 : List Value) (o2 : Nat) (v2 : List Value) (h2 : o2 + v2.length ≤ cur.length) (h1 : o1 + v1.length ≤ o2) : over (over cur o2 v2) o1 v1 = over (over cur o1 v1) o2 v2 := by
  apply List.ext_getElem?
  intro j
  rw [over_get _ _ _ (by rw [over_len _ _ _ h2]; omega), over_get _ _ _ h2, over_get _ _ _ (by rw [over_len _ _ _ (by omega)]; omega), over_get _ _ _ (by omega)]
  by_cases a1 : j < o1
  · rw [if_pos a1, if_pos a1, if_pos (by omega)]
  · rw [if_neg a1, if_neg a1]
    by_cases a2 : j < o1 + v1.length
    · rw [if_pos a2, if_pos a2, if_pos (by omega)]
    · rw [if_neg a2, if_neg a2]
theorem arr3 (x : List Value) (b c : Array Value) : x.toArray ++ b ++ c = (x ++ b.toList ++ c.toList).toArray := by
  apply Array.toList_inj.1
  simp
theorem Try.sizeRg : (Try.prog.info? 27).map (·.size) = some 2 := by kernel_rfl
/-- The cells of a row into which one is put. -/
theorem ins_cells {L : List Rg} {r : Rg} {cur : List Value} {cap i : Nat} (hc : cur.length = cap * 2) (hn : L.length + 1 ≤ cap) (hi : i ≤ L.length) (ht : cur.take (i * 2) = rrows (L.take i)) :
    (over (over cur (i * 2) r.cells) ((i + 1) * 2) (rrows (L.drop i))).take ((L.take i ++ r :: L.drop i).length * 2) = rrows (L.take i ++ r :: L.drop i) := by
  have hl : (L.take i ++ r :: L.drop i).length = L.length + 1 := by simp; omega
  have hd : (rrows (L.drop i)).length = (L.length - i) * 2 := by rw [length_rrows, List.length_drop]
  have ht2 : (rrows (L.take i)).length = i * 2 := by rw [length_rrows, List.length_take]; omega
  have h1 : (over cur (i * 2) r.cells).length = cap * 2 := by rw [over_len _ _ _ (by rw [len_rcells, hc]; omega), hc]
  rw [hl, rrows_app, rrows_cons]
  apply List.ext_getElem?
  intro j
  rw [List.getElem?_take, over_get _ _ _ (by rw [hd, h1]; omega), over_get _ _ _ (by rw [len_rcells, hc]; omega), hd, len_rcells]
  by_cases j1 : j < i * 2
  · rw [if_pos (by omega), if_pos (by omega), if_pos j1, List.getElem?_append_left (by omega), ← ht, List.getElem?_take, if_pos j1]
  · rw [List.getElem?_append_right (by omega), ht2]
    by_cases j2 : j < (i + 1) * 2
    · rw [if_pos (by omega), if_pos j2, if_neg j1, if_pos (by omega), List.getElem?_append_left (by rw [len_rcells]; omega)]
    · rw [if_neg j2, List.getElem?_append_right (by rw [len_rcells]; omega), len_rcells, show j - i * 2 - 2 = j - (i + 1) * 2 by omega]
      by_cases j3 : j < (i + 1) * 2 + (L.length - i) * 2
      · rw [if_pos (by omega), if_pos j3]
      · rw [if_neg (by omega), List.getElem?_eq_none (by rw [hd]; omega)]
/-- What Insert leaves. -/
def Ins (w : World) (v : Value) (L' : List Rg) (e : Ending) (w' : World) : Prop :=
  ∃ v', e = .returned v' ∧ RowR w' v' L' ∧ Moves (fun q => v.ownBlock = some q) w w' ∧ ∀ q, v'.ownBlock = some q → v.ownBlock = some q ∨ w.heap.size ≤ q
section
variable {w : World}
set_option maxRecDepth 100000 in
set_option maxHeartbeats 2000000 in
/-- At the end. -/
theorem ins_end {v : Value} {L : List Rg} (h : RowR w v L) (hl : L.length ≤ 10000) {gl : Nat} {r : Rg} (hgl : Blk w gl 1 r.cells) :
    Calls Try.prog 29 #[v, .int .i64 (L.length : Int), .slice (some ⟨gl, 0, none⟩) 1 1] w (Ins w v (L.take L.length ++ r :: L.drop L.length)) := by
  rw [List.take_length, List.drop_length]
  obtain ⟨i0, hi0, hz0, hz1, hz2⟩ := info_parts Try.infoRg
  have Hi := Lib.hid hi0
  have Hz := Lib.hid hz0
  have Hz1 := Lib.hid hz1
  have Hz2 := Lib.hid hz2
  have hn : ∀ j u, r.cells[j]? = some u → w.cell? ((⟨gl, 0, none⟩ : Addr).add j) = some u := fun j u hu => by
    rw [Addr.add_mid, Nat.zero_add, hgl.cell]; exact hu
  have Hn := Lib.hid hn
  have Hh := Lib.hid h
  have hml : L.length + 1 ≤ maxLen := by unfold maxLen; omega
  have h1c := one_rcells r
  obtain ⟨a, cap, rfl⟩ := h.lens
  clear hi0 hz0 hz1 hz2 hn h hgl
  by_cases hcap : L.length = cap
  · subst hcap
    go_enter Try.func29, Try.ntmps29
    go_wp2_with (refine wpList_append_own_at _ rfl (.tmp 23) (.tmp 24) 25 rfl 0 27 i0 _ 2 16 Try.underlying25 Hi.out Hz.out Hz1.out Hz2.out rfl (by decide) _ L.length (rrows L) rfl Hh.out ⟨gl, 0, none⟩ 1 1 r.cells rfl rfl Hn.out h1c hml (by omega) (Nat.zero_le _) ?_)
    intro v' w3 hown hgrow hnil hat
    have hR : RowR w3 v' (L ++ [r]) := by
      unfold RowR
      rw [List.length_append, rrows_app]
      simpa [rrows] using hown
    have HR := Lib.hid hR
    have HG := Lib.hid hgrow
    have HA := Lib.hid hat
    clear hown hgrow hnil hat hR
    go_wp2_with fail
    go_ret
    refine ⟨v', rfl, HR.out, (Moves.refl _ w).grown HG.out (fun q hq => .inl hq), fun q hq => ?_⟩
    rcases HA.out with h1 | h1
    · exact .inl (by rw [← h1]; exact hq)
    · rw [h1] at hq; cases hq; exact .inr (Nat.le_refl _)
  · have hcap2 : ¬ cap = L.length := fun e => hcap e.symm
    go_enter Try.func29, Try.ntmps29
    go_wp2_with (refine wpList_append_own_at _ rfl (.tmp 23) (.tmp 24) 25 rfl 0 27 i0 _ 2 16 Try.underlying25 Hi.out Hz.out Hz1.out Hz2.out rfl (by decide) _ L.length (rrows L) rfl Hh.out ⟨gl, 0, none⟩ 1 1 r.cells rfl rfl Hn.out h1c hml (by omega) (Nat.zero_le _) ?_)
    intro v' w3 hown hgrow hnil hat
    have hR : RowR w3 v' (L ++ [r]) := by
      unfold RowR
      rw [List.length_append, rrows_app]
      simpa [rrows] using hown
    have HR := Lib.hid hR
    have HG := Lib.hid hgrow
    have HA := Lib.hid hat
    clear hown hgrow hnil hat hR
    go_wp2_with fail
    go_ret
    refine ⟨v', rfl, HR.out, (Moves.refl _ w).grown HG.out (fun q hq => .inl hq), fun q hq => ?_⟩
    rcases HA.out with h1 | h1
    · exact .inl (by rw [← h1]; exact hq)
    · rw [h1] at hq; cases hq; exact .inr (Nat.le_refl _)
set_option maxRecDepth 100000 in
set_option maxHeartbeats 4000000 in
/-- In the midst, there is room. -/
theorem ins_room {g cap : Nat} {L : List Rg} (h : RowR w (.slice (some ⟨g, 0, none⟩) L.length cap) L) (hl : L.length ≤ 10000) {i : Nat} (hi : i < L.length) (hroom : L.length + 1 ≤ cap) {gl : Nat} {r : Rg} (hgl : Blk w gl 1 r.cells) (hne : gl ≠ g) :
    Calls Try.prog 29 #[.slice (some ⟨g, 0, none⟩) L.length cap, .int .i64 (i : Int), .slice (some ⟨gl, 0, none⟩) 1 1] w (Ins w (.slice (some ⟨g, 0, none⟩) L.length cap) (L.take i ++ r :: L.drop i)) := by
  obtain ⟨-, hcl, cur, hB, hcur⟩ := h.blk
  have hcm := hB.2.2
  unfold maxLen at hcm
  have hdl : (rrows (L.drop i)).length = (L.length - i) * 2 := by rw [length_rrows, List.length_drop]
  have hov : ∀ lb cb, (callFunc 39 #[.slice (some ⟨gl, 0, none⟩) 1 1, .slice (some ⟨g, (i + 1) * 2, none⟩) lb cb]).run Try.prog w = .ok (.value (.bool false)) w := fun lb cb => by
    rw [run_callFunc_extern Try.func39 (by kernel_rfl) (by kernel_rfl) (by kernel_rfl) (e := Extern.SlicesOverlaps.overlaps #[25, 25] #[4]) (by kernel_rfl),
      Lib.run_overlaps_apart w 25 4 27 Try.underlying25 2 (fun w => by kernel_rfl) ⟨gl, 0, none⟩ ⟨g, (i + 1) * 2, none⟩ 1 1 lb cb hne 27 27 2 (cap * 2) (by simp [World.shape?, hgl.1, Rg.cells]) (by simp [World.shape?, hB.1, hB.2.1]) (by omega) (hgl.frozen 0) (hgl.frozen 2)]
    rfl
  have hcp1 : ∀ ty dc sc, (Builtin.copy_ #[25, 25] ty #[.slice (some ⟨g, (i + 1) * 2, none⟩) (L.length + 1 - (i + 1)) dc, .slice (some ⟨g, i * 2, none⟩) (L.length + 1 - i) sc]).run Try.prog w.drew = .ok (goInt ((L.length - i : Nat) : Int)) (w.drew.setCells g ((i + 1) * 2) (rrows (L.drop i))) := fun ty dc sc => by
    have hmn : Nat.min (L.length + 1 - i) (L.length + 1 - (i + 1)) = L.length - i := by simp only [Nat.min_def]; split <;> omega
    have := run_copy_rg (P := Try.prog) w.drew 25 25 ty 27 g ((i + 1) * 2) (L.length + 1 - (i + 1)) dc ⟨g, i * 2, none⟩ (L.length + 1 - i) sc (rrows (L.drop i)) Try.underlying25 Try.sizeRg (by rw [hmn, hdl])
      (fun j u hj => by
        rw [Addr.add_mid]
        rw [rrows_drop, List.getElem?_drop] at hj
        have := World.ownsRow.cells h rfl _ u hj
        rwa [Addr.add_mid, Nat.zero_add] at this)
      (fun j hj => by rw [hdl] at hj; exact hB.some (by omega)) (fun j _ => hB.frozen _) (one_rrows _)
    rwa [hmn] at this
  have hB0 : Blk w.drew g cap cur := hB
  have hB1 := hB0.setCells ((i + 1) * 2) (rrows (L.drop i)) (by rw [hdl]; omega)
  have hgl1 : Blk (w.drew.setCells g ((i + 1) * 2) (rrows (L.drop i))) gl 1 r.cells := hgl.keep (heap_setCells g gl hne _ _ _)
  obtain ⟨W1, hW1⟩ : ∃ W1, W1 = w.drew.setCells g ((i + 1) * 2) (rrows (L.drop i)) := ⟨_, rfl⟩
  rw [← hW1] at hcp1 hB1 hgl1
  have hcp2 : ∀ ty dc, (Builtin.copy_ #[25, 25] ty #[.slice (some ⟨g, i * 2, none⟩) (L.length + 1 - i) dc, .slice (some ⟨gl, 0, none⟩) 1 1]).run Try.prog W1 = .ok (goInt 1) (W1.setCells g (i * 2) r.cells) := fun ty dc => by
    have hmn : Nat.min 1 (L.length + 1 - i) = 1 := by simp only [Nat.min_def]; split <;> omega
    have := run_copy_rg (P := Try.prog) W1 25 25 ty 27 g (i * 2) (L.length + 1 - i) dc ⟨gl, 0, none⟩ 1 1 r.cells Try.underlying25 Try.sizeRg (by rw [hmn]; rfl)
      (fun j u hj => by rw [Addr.add_mid, Nat.zero_add, hgl1.cell]; exact hj)
      (fun j hj => by rw [len_rcells] at hj; exact hB1.some (by omega)) (fun j _ => hB1.frozen _) (one_rcells _)
    rwa [hmn] at this
  have hB2 := hB1.setCells (i * 2) r.cells (by rw [len_rcells]; omega)
  have hM2 : Moves (fun q => (Value.slice (some ⟨g, 0, none⟩) L.length cap).ownBlock = some q) w (W1.setCells g (i * 2) r.cells) := by
    rw [hW1]
    refine Moves.setCells ?_ g _ _ (.inl rfl)
    refine Moves.setCells ?_ g _ _ (.inl rfl)
    exact (Moves.refl _ w).drew
  have hfin : RowR (W1.setCells g (i * 2) r.cells) (.slice (some ⟨g, 0, none⟩) (L.length + 1) cap) (L.take i ++ r :: L.drop i) := by
    have hln : (L.take i ++ r :: L.drop i).length = L.length + 1 := by simp; omega
    rw [← hln]
    refine hB2.row (by rw [hln]; exact hroom) ?_
    rw [over_comm _ _ _ _ _ (by rw [hB.2.1, hdl]; omega) (by rw [len_rcells]; omega)]
    refine ins_cells hB.2.1 hroom (by omega) ?_
    rw [rrows_take, ← hcur, List.take_take, Nat.min_eq_left (by omega)]
  have HM2 := Lib.hid hM2
  have Hfin := Lib.hid hfin
  have Hcp1 := Lib.hid hcp1
  have Hcp2 := Lib.hid hcp2
  have hw1 : IntKind.i64.wrap ((i : Int) + 1) = (i : Int) + 1 := by rw [IntKind.wrap_i64]; omega
  have hb1 : (0 : Int) ≤ (i : Int) + 1 := by omega
  have htn : ((i : Int) + 1).toNat = i + 1 := by omega
  have hb2 : ¬ (cap = i + 1) := by omega
  have hb3 : (i : Int) ≤ (L.length : Int) + 1 := by omega
  have hb4 : ¬ (cap = i) := by omega
  have hb5 : (i : Int) + 1 ≤ (L.length : Int) + 1 := by omega
  have hb6 : (i : Int) ≤ (L.length : Int) := by omega
  have hz2 : ¬ ((i : Int) = (L.length : Int)) := by omega
  have hz3 : ¬ ((cap : Int) < (L.length : Int) + 1) := by omega
  have hz4 : (L.length : Int) + 1 ≤ (cap : Int) := by omega
  clear hB hcur h hcp1 hcp2 hB0 hB1 hgl1 hB2 hM2 hfin hW1 hgl hdl
  go_enter Try.func29, Try.ntmps29
  go_wp2_with (simp only [hov])
  go_region_law (refine step_copy_known rfl (.tmp 73) (.tmp 76) 25 25 rfl (.slice (some ⟨g, (i + 1) * 2, none⟩) (L.length + 1 - (i + 1)) (cap - (i + 1))) (.slice (some ⟨g, i * 2, none⟩) (L.length + 1 - i) (cap - i)) (by simp [Act.eval, Act.put]) (by simp [Act.eval, Act.put]) _ _ (Hcp1.out _ _ _) ?_)
  all_goals
    go_wp2_with (refine wpList_copy_known rfl (.tmp 80) (.tmp 81) 25 25 rfl (.slice (some ⟨g, i * 2, none⟩) (L.length + 1 - i) (cap - i)) (.slice (some ⟨gl, 0, none⟩) 1 1) rfl rfl _ _ (Hcp2.out _ _) ?_)
    go_wp2_with fail
    go_ret
    exact ⟨_, rfl, Hfin.out, HM2.out, fun q hq => .inl hq⟩
set_option maxRecDepth 100000 in
set_option maxHeartbeats 4000000 in
/-- In the midst, there is none. -/
theorem ins_grow {g : Nat} {L : List Rg} (h : RowR w (.slice (some ⟨g, 0, none⟩) L.length L.length) L) (hl : L.length ≤ 10000) {i : Nat} (hi : i < L.length) {gl : Nat} {r : Rg} (hgl : Blk w gl 1 r.cells) :
    Calls Try.prog 29 #[.slice (some ⟨g, 0, none⟩) L.length L.length, .int .i64 (i : Int), .slice (some ⟨gl, 0, none⟩) 1 1] w (Ins w (.slice (some ⟨g, 0, none⟩) L.length L.length) (L.take i ++ r :: L.drop i)) := by
  obtain ⟨i0, hi0, hz0, hz1, hz2⟩ := info_parts Try.infoRg
  have hdl : (rrows (L.drop i)).length = (L.length - i) * 2 := by rw [length_rrows, List.length_drop]
  have htl : (rrows (L.take i)).length = i * 2 := by rw [length_rrows, List.length_take]; omega
  have hgw : g < w.heap.size := h.lt rfl
  have hglw := hgl.lt
  have hcells := World.ownsRow.cells h rfl
  have hold : (Builtin.firstCells i0.size i (.slice (some ⟨g, 0, none⟩) i L.length)).run Try.prog w.drew = .ok (rrows (L.take i)).toArray w.drew := by
    rw [hz1]
    exact run_firstCells_some (w := w.drew) 2 i ⟨g, 0, none⟩ i L.length (rrows (L.take i)) htl (fun j v hj => by
      rw [rrows_take, List.getElem?_take] at hj
      split at hj
      · exact hcells j v hj
      · cases hj)
  obtain ⟨G, hG⟩ : ∃ G, G = grownCap w (L.length + 1) L.length 27 := ⟨_, rfl⟩
  have hGn : L.length + 1 ≤ G := by rw [hG]; exact grownCap_ge w _ _ _
  have hGm : G ≤ maxLen := by rw [hG]; exact grownCap_le_maxLen w (L.length + 1) L.length _ (by unfold maxLen; omega)
  obtain ⟨ROW, hROW⟩ : ∃ ROW : List Value, ROW = rrows (L.take i) ++ (Builtin.zeroCells (Rg.val Rg.zero).cells (L.length + 1 - i)).toList ++ (Builtin.zeroCells (Rg.val Rg.zero).cells (G - (L.length + 1))).toList := ⟨_, rfl⟩
  have hzs : (Rg.val Rg.zero).cells.size = 2 := rfl
  have hRl : ROW.length = G * 2 := by
    rw [hROW]
    simp only [List.length_append, htl, Array.length_toList, size_zeroCells, hzs]
    omega
  have hRt : ROW.take (i * 2) = rrows (L.take i) := by rw [hROW, List.append_assoc, List.take_append_of_le_length (by omega), List.take_of_length_le (by omega)]
  have hrz : ∀ ty, (Builtin.append_ #[25, 3] ty #[.slice (some ⟨g, 0, none⟩) i L.length, .int .i64 ((L.length : Int) + 1 - (i : Int))]).run Try.prog w =
      .ok (.slice (some ⟨w.heap.size, 0, none⟩) (L.length + 1) G) (w.drew.alloc (.cells ROW.toArray 27)) := fun ty => by
    have h := Lib.run_append_grow_zeros (P := Try.prog) w 25 3 ty 27 i0 _ .i64 .i64 Try.underlying25 Try.underlying3 hi0 hz0 (some ⟨g, 0, none⟩) i L.length (rrows (L.take i)) hold (L.length + 1 - i) (by omega) (by omega) (by omega) (by omega) (by rw [hz2]; omega) (by rw [hz2]; exact growslice_fits (by omega) (by omega))
    rw [show i + (L.length + 1 - i) = L.length + 1 by omega, ← hG] at h
    rw [show (L.length : Int) + 1 - (i : Int) = ((L.length + 1 - i : Nat) : Int) by omega, h, hROW, arr3]
  obtain ⟨W1, hW1⟩ : ∃ W1, W1 = w.drew.alloc (.cells ROW.toArray 27) := ⟨_, rfl⟩
  rw [← hW1] at hrz
  have hB1 : Blk W1 w.heap.size G ROW := ⟨by rw [hW1]; exact heap_alloc_last w.drew _, hRl, hGm⟩
  have hb1 : Below w.heap.size w W1 := by rw [hW1]; exact (Below.refl _ _).drew.alloc (Nat.le_refl _) _
  have hgl1 : Blk W1 gl 1 r.cells := hgl.keep (hb1.block gl hglw)
  have hcA : ∀ ty dc, (Builtin.copy_ #[25, 25] ty #[.slice (some ⟨w.heap.size, i * 2, none⟩) (L.length + 1 - i) dc, .slice (some ⟨gl, 0, none⟩) 1 1]).run Try.prog W1 = .ok (goInt 1) (W1.setCells w.heap.size (i * 2) r.cells) := fun ty dc => by
    have hmn : Nat.min 1 (L.length + 1 - i) = 1 := by simp only [Nat.min_def]; split <;> omega
    have := run_copy_rg (P := Try.prog) W1 25 25 ty 27 w.heap.size (i * 2) (L.length + 1 - i) dc ⟨gl, 0, none⟩ 1 1 r.cells Try.underlying25 Try.sizeRg (by rw [hmn]; rfl)
      (fun j u hj => by rw [Addr.add_mid, Nat.zero_add, hgl1.cell]; exact hj)
      (fun j hj => by rw [len_rcells] at hj; exact hB1.some (by omega)) (fun j _ => hB1.frozen _) (one_rcells _)
    rwa [hmn] at this
  have hB2 := hB1.setCells (i * 2) r.cells (by rw [len_rcells]; omega)
  have hb2 : Below w.heap.size w (W1.setCells w.heap.size (i * 2) r.cells) := ((Moves.of_below (F := fun q => q = w.heap.size) hb1).setCells w.heap.size _ _ (.inl rfl)).below (Nat.le_refl _) (fun q hq => by omega)
  obtain ⟨W2, hW2⟩ : ∃ W2, W2 = W1.setCells w.heap.size (i * 2) r.cells := ⟨_, rfl⟩
  rw [← hW2] at hcA hB2 hb2
  have hcB : ∀ ty dc sc, (Builtin.copy_ #[25, 25] ty #[.slice (some ⟨w.heap.size, (i + 1) * 2, none⟩) (L.length + 1 - (i + 1)) dc, .slice (some ⟨g, i * 2, none⟩) (L.length - i) sc]).run Try.prog W2.drew = .ok (goInt ((L.length - i : Nat) : Int)) (W2.drew.setCells w.heap.size ((i + 1) * 2) (rrows (L.drop i))) := fun ty dc sc => by
    have hmn : Nat.min (L.length - i) (L.length + 1 - (i + 1)) = L.length - i := by simp only [Nat.min_def]; split <;> omega
    have := run_copy_rg (P := Try.prog) W2.drew 25 25 ty 27 w.heap.size ((i + 1) * 2) (L.length + 1 - (i + 1)) dc ⟨g, i * 2, none⟩ (L.length - i) sc (rrows (L.drop i)) Try.underlying25 Try.sizeRg (by rw [hmn, hdl])
      (fun j u hj => by
        rw [Addr.add_mid]
        rw [rrows_drop, List.getElem?_drop] at hj
        have h3 := hcells _ u hj
        rw [Addr.add_mid, Nat.zero_add] at h3
        exact (World.cell?_of_block (a := ⟨g, i * 2 + j, none⟩) (hb2.block g hgw)).trans h3)
      (fun j hj => by rw [hdl] at hj; exact hB2.some (by omega)) (fun j _ => hB2.frozen _) (one_rrows _)
    rwa [hmn] at this
  have hB3 : Blk (W2.drew.setCells w.heap.size ((i + 1) * 2) (rrows (L.drop i))) w.heap.size G _ := Blk.setCells (w := W2.drew) hB2 ((i + 1) * 2) (rrows (L.drop i)) (by rw [hdl]; omega)
  have hfin : RowR (W2.drew.setCells w.heap.size ((i + 1) * 2) (rrows (L.drop i))) (.slice (some ⟨w.heap.size, 0, none⟩) (L.length + 1) G) (L.take i ++ r :: L.drop i) := by
    have hln : (L.take i ++ r :: L.drop i).length = L.length + 1 := by simp; omega
    rw [← hln]
    exact hB3.row (by rw [hln]; exact hGn) (ins_cells hRl hGn (by omega) hRt)
  have hM2 : Moves (fun q => (Value.slice (some ⟨g, 0, none⟩) L.length L.length).ownBlock = some q) w (W2.drew.setCells w.heap.size ((i + 1) * 2) (rrows (L.drop i))) :=
    Moves.setCells (Moves.of_below hb2.drew) w.heap.size _ _ (.inr (Nat.le_refl _))
  have HM2 := Lib.hid hM2
  have Hfin := Lib.hid hfin
  have Hrz := Lib.hid hrz
  have HcA := Lib.hid hcA
  have HcB := Lib.hid hcB
  have hw1 : IntKind.i64.wrap ((i : Int) + 1) = (i : Int) + 1 := by rw [IntKind.wrap_i64]; omega
  have hb1' : (0 : Int) ≤ (i : Int) + 1 := by omega
  have htn : ((i : Int) + 1).toNat = i + 1 := by omega
  have hGi : (G : Int) ≤ 9223372036854775807 := by unfold maxLen at hGm; omega
  have hb2' : ¬ (G = i + 1) := by omega
  have hb4 : ¬ (L.length = i) := by omega
  have hb4' : ¬ (G = i) := by omega
  have hb5 : (i : Int) + 1 ≤ (L.length : Int) + 1 := by omega
  have hb6 : (i : Int) ≤ (L.length : Int) := by omega
  have hz2' : ¬ ((i : Int) = (L.length : Int)) := by omega
  clear hi0 hz0 hz1 hz2 hdl htl hcells hold hG hROW hzs hRl hRt hrz hW1 hB1 hb1 hgl1 hcA hB2 hb2 hW2 hcB hB3 hfin hM2 hgl h hGm
  go_enter Try.func29, Try.ntmps29
  go_wp2_with (first
    | (at_builtin; refine Lib.wpList_append_run _ rfl _ _ _ _ rfl _ _ rfl rfl _ _ (Hrz.out _) ?_)
    | (refine wpList_copy_known rfl (.tmp 43) (.tmp 44) 25 25 rfl (.slice (some ⟨w.heap.size, i * 2, none⟩) (L.length + 1 - i) (G - i)) (.slice (some ⟨gl, 0, none⟩) 1 1) rfl rfl _ _ (HcA.out _ _) ?_))
  go_region_law (refine step_copy_known rfl (.tmp 50) (.tmp 53) 25 25 rfl (.slice (some ⟨w.heap.size, (i + 1) * 2, none⟩) (L.length + 1 - (i + 1)) (G - (i + 1))) (.slice (some ⟨g, i * 2, none⟩) (L.length - i) (L.length - i)) (by simp [Act.eval, Act.put]) (by simp [Act.eval, Act.put]) _ _ (HcB.out _ _ _) ?_)
  all_goals
    go_wp2_with fail
    go_ret
    exact ⟨_, rfl, Hfin.out, HM2.out, fun q hq => by cases hq; exact .inr (Nat.le_refl _)⟩
/-- Insert of one range, wherever. -/
theorem ins_any {v : Value} {L : List Rg} (h : RowR w v L) (hl : L.length ≤ 10000) {i : Nat} (hi : i ≤ L.length) {gl : Nat} {r : Rg} (hgl : Blk w gl 1 r.cells) (hne : v.ownBlock ≠ some gl) :
    Calls Try.prog 29 #[v, .int .i64 (i : Int), .slice (some ⟨gl, 0, none⟩) 1 1] w (Ins w v (L.take i ++ r :: L.drop i)) := by
  by_cases hil : i = L.length
  · subst hil
    exact ins_end h hl hgl
  · rcases h.nil_or with ⟨-, rfl⟩ | ⟨g, cap, rfl, hg, hcl, hcm⟩
    · exact absurd (by simpa using hi) hil
    · by_cases hc : L.length + 1 ≤ cap
      · exact ins_room h hl (by omega) hc hgl (fun e => hne (by rw [e]; rfl))
      · obtain rfl : cap = L.length := by omega
        exact ins_grow h hl (by omega) hgl
end
end Go.Proofs.Ytajbodfdohhhoaa
