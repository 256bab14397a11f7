/- The plate's Write. Printed by gen_write.py. -/
import Derived.Test.YtkbncbkmaakpkaaDoorPlateB
import Derived.Deep.AppendLies
import Derived.Deep.RegionHeldLaw
namespace Go.Proofs.YtkbncbkmaakpkaaDoor
open Go.RowKit
theorem Tryd.infoWrite : (Tryd.prog.info? 274).map (fun i => (i.zero, i.size, i.bytes)) = some (some (.agg (wcell (0, Zn 32)).toArray), 33, 40) := by kernel_rfl
theorem Tryd.infoWrite2 : (Tryd.prog.info? 274).map (fun i => (i.zero, i.size)) = some (some (.agg (wcell (0, Zn 32)).toArray), 33) := by kernel_rfl
theorem pnews_last (w : World) (cs : List Value) (t : TypeId) : ∀ j u, cs[j]? = some u → (w.alloc (.cells cs.toArray t)).cell? ((⟨w.heap.size, 0, none⟩ : Addr).add j) = some u := by
  intro j u hu
  rw [Addr.add_mid, Nat.zero_add, World.cell?_alloc_new]
  simpa using hu
theorem PS.lastE_of {st : PS} {i : Nat} {s : List UInt8} {c : Bool} (h : (st.waits i s).lastB = c) : st.lastE = if c then 70 else 0 := by
  rw [PS.lastE, ← h]; rfl
theorem wcell_len (i : Nat) (s : List UInt8) (h : s.length = 32) : (wcell (i, s)).length = 33 := by simp [wcell, length_bcells, h]
theorem wcell_pad (i : Nat) (s : ByteArray) : List.take 1 (wcell (i, Zn 32)) ++ bcells s.data.toList ++ List.drop (1 + s.size) (wcell (i, Zn 32)) = wcell (i, pad s.data.toList) := by
  have e : s.data.toList.length = s.size := rfl
  have h1 : List.drop (1 + s.size) (wcell (i, Zn 32)) = bcells (Zn (32 - s.size)) := by
    show List.drop (1 + s.size) (_ :: bcells (Zn 32)) = _
    rw [Nat.add_comm, List.drop_succ_cons, bcells, ← List.map_drop, Zn, List.drop_replicate]
    rfl
  rw [h1]
  simp [wcell, pad, bcells, e]
set_option maxRecDepth 100000 in
set_option maxHeartbeats 1000000 in
/-- The write is taken: it waits, and counts. -/
theorem write_ok {b : Nat} {v : Value} {st : PS} {w : World} (h : IsPlate w b v st) (hn : st.calls < 1000000000) (hwl : st.wait.length < 1000000) (i : Nat) (s : ByteArray) (hi : st.wrong i = 0) (hs : s.size ≤ 32) :
    Calls Tryd.prog 175 #[.pointer (some ⟨b, 0, none⟩), .int .i64 (i : Int), .string s] w fun e w' => e = .returned (.int .i64 st.lastE) ∧ ToPlate w b v (st.waits i (pad s.data.toList)).lastS w' := by
  have hwr := wrong_any h i
  have hiw : i < st.size := (PS.wrong_lt hi).2
  rw [hi] at hwr
  have hpl : (pad s.data.toList).length = 32 := length_pad _ hs
  go_enter Tryd.func175, Tryd.ntmps175
  go_wp2_with fail
  refine hwr.mono ?_
  rintro e w1 ⟨rfl, rfl⟩
  clear hwr
  go_wp2_with (first | (refine wpList_store_last rfl 274 (.tmp 8) (.tmp 19) rfl w _ _ (wcell (i, Zn 32)) rfl rfl rfl rfl Tryd.sizeWrite (one_wcell _) ?_) | (refine wpList_copy_string rfl (.tmp 21) (.tmp 22) 42 9 rfl 5 Tryd.underlying42 Tryd.sizeByte w (wcell (i, Zn 32)) 274 1 32 32 s rfl rfl rfl hs (by rw [show (wcell (i, Zn 32)).length = 33 from rfl]; omega) ?_))
  rw [wcell_pad i s]
  have hlx : (wcell (i, pad s.data.toList)).length = 33 := wcell_len _ _ hpl
  have hpW := h.alloc (.cells (wcell (i, pad s.data.toList)).toArray 274)
  have hmW : Moves (pfp b v) w (w.alloc (.cells (wcell (i, pad s.data.toList)).toArray 274)) := (Moves.refl _ w).alloc _
  have hWx : (w.alloc (.cells (wcell (i, pad s.data.toList)).toArray 274)).rangeAt w.heap.size 0 (wcell (i, pad s.data.toList)) := fun j u hu => by
    have := pnews_last w (wcell (i, pad s.data.toList)) 274 j u hu
    rwa [Addr.add_mid] at this
  have hne2 : v.ownBlock ≠ some w.heap.size := fun e => Nat.lt_irrefl _ (h.lt _ (.inr e))
  have huW : w.heap.size < (w.alloc (.cells (wcell (i, pad s.data.toList)).toArray 274)).heap.size := by simp
  have hbu : b ≠ w.heap.size := Nat.ne_of_lt (h.lt _ (.inl rfl))
  have hxi : (i, pad s.data.toList).1 < st.size := hiw
  have hxs : (i, pad s.data.toList).2.length = 32 := hpl
  generalize hx : (i, pad s.data.toList) = x at hxi hxs hlx hpW hmW hWx huW ⊢
  generalize hW : w.alloc (.cells (wcell x).toArray 274) = W at hpW hmW hWx huW ⊢
  generalize hu : w.heap.size = u at hWx hne2 huW hbu ⊢
  have hWv := hpW.wv
  have hWo := hpW.own
  have hne := hpW.ne
  have hWf := hpW.fro 4097
  have hbW : b < W.heap.size := hpW.lt _ (.inl rfl)
  have HW := Lib.hid hW
  have Hx := Lib.hid hx
  have Hu := Lib.hid hu
  clear hW hx hu
  have Hlx := Lib.hid hlx
  have hlen : (Tryd.prog.info? 274).map (·.size) = some (wcell x).length := by rw [Tryd.sizeWrite, hlx]
  have hinfo : (Tryd.prog.info? 274).map (fun i => (i.zero, i.size)) = some (some (.agg (wcell (0, Zn 32)).toArray), (wcell x).length) := by rw [Tryd.infoWrite2, hlx]
  obtain ⟨i0, hi0, hz0, hz1, hz2⟩ := info_parts Tryd.infoWrite
  go_wp2_with fail
  refine wp_region_held_drew (S := fun w' => w'.rangeAt u 0 (wcell x)) (by kernel_rfl) hWx (fun hHeld => ?_)
  refine wpAnyH_take (i := 0) (oi := ⟨_, _, _, _, _, _⟩) (v := _) rfl (by kernel_rfl) (by kernel_rfl) (by kernel_rfl) (fun _ _ _ h => h) (Or.inl ⟨by rfl, fun _ _ => rfl⟩) hHeld ?_
  try simp only [Act.put, List.setIfInBounds_toArray, List.set_cons_zero, List.set_cons_succ]
  refine wpAnyH_take (i := 1) (oi := ⟨_, _, _, _, _, _⟩) (v := _) rfl (by kernel_rfl) (by kernel_rfl) (by kernel_rfl) (fun _ _ _ h => h) (Or.inl ⟨by rfl, fun _ _ => rfl⟩) hHeld ?_
  try simp only [Act.put, List.setIfInBounds_toArray, List.set_cons_zero, List.set_cons_succ]
  refine wpAnyH_take (i := 2) (oi := ⟨_, _, _, _, _, _⟩) (v := .pointer (some ⟨b, 0, none⟩)) rfl (by kernel_rfl) (by kernel_rfl) (by kernel_rfl) (fun _ _ _ h => h) (Or.inl ⟨by rfl, fun _ _ => by go_simp⟩) hHeld ?_
  try simp only [Act.put, List.setIfInBounds_toArray, List.set_cons_zero, List.set_cons_succ]
  refine wpAnyH_take (i := 3) (oi := ⟨_, _, _, _, _, _⟩) (v := .pointer (some ⟨b, 4097, none⟩)) rfl (by kernel_rfl) (by kernel_rfl) (by kernel_rfl) (fun _ _ _ h => h) (Or.inl ⟨by rfl, fun _ _ => by go_simp⟩) hHeld ?_
  try simp only [Act.put, List.setIfInBounds_toArray, List.set_cons_zero, List.set_cons_succ]
  refine wpAnyH_take (i := 5) (oi := ⟨_, _, _, _, _, _⟩) (v := .agg (wcell x).toArray) rfl (by kernel_rfl) (by kernel_rfl) (by kernel_rfl) (fun _ _ _ h => h) (yieldsIf_load_mid (by rfl) 274 (.tmp 8) rfl u 0 rfl (wcell x) _ (fun w' hS => hS) Tryd.underlying274 rfl hlen) hHeld ?_
  try simp only [Act.put, List.setIfInBounds_toArray, List.set_cons_zero, List.set_cons_succ]
  have hWv' : W.drew.cell? ⟨b, 4097, none⟩ = some v := hWv
  have hWv2 : (W.drew.alloc (.cells (wcell x).toArray 274)).cell? ⟨b, 4097, none⟩ = some v := (World.cell?_alloc_lt _ _ _ (by simpa using hbW)).trans hWv
  refine wpAnyH_ready (rs := [4, 6]) (by kernel_rfl) (by simp) (AllReadyH.cons (o := ⟨_, _, _, _, _, _⟩) rfl (fun K hK => ?_) (AllReadyH.cons (o := ⟨_, _, _, _, _, _⟩) rfl (fun K hK => ?_) AllReadyH.nil))
  focus
    go_simp
    refine hK.out _ _ hHeld (fun hHeld => ?_)
    clear hK K
    try simp only [Act.put, List.setIfInBounds_toArray, List.set_cons_zero, List.set_cons_succ]
    refine wpAnyH_ready (rs := [6]) (by kernel_rfl) (by simp) (AllReadyH.cons (o := ⟨_, _, _, _, _, _⟩) rfl (fun K hK => ?_) AllReadyH.nil)
    rw [if_pos (by rfl)]
    refine wp_buildSlice_one 207 274 (.tmp 29) rfl (wcell x) _ Tryd.underlying207 hinfo (by omega) (by omega) rfl ?_
    refine hK.out _ _ (World.rangeAt_alloc hHeld _) (fun hHeld => ?_)
    clear hK K
    try simp only [Act.put, List.setIfInBounds_toArray, List.set_cons_zero, List.set_cons_succ]
  rotate_left
  focus
    rw [if_pos (by rfl)]
    refine wp_buildSlice_one 207 274 (.tmp 29) rfl (wcell x) _ Tryd.underlying207 hinfo (by omega) (by omega) rfl ?_
    refine hK.out _ _ (World.rangeAt_alloc hHeld _) (fun hHeld => ?_)
    clear hK K
    try simp only [Act.put, List.setIfInBounds_toArray, List.set_cons_zero, List.set_cons_succ]
    refine wpAnyH_ready (rs := [4]) (by kernel_rfl) (by simp) (AllReadyH.cons (o := ⟨_, _, _, _, _, _⟩) rfl (fun K hK => ?_) AllReadyH.nil)
    go_simp
    refine hK.out _ _ hHeld (fun hHeld => ?_)
    clear hK K
    try simp only [Act.put, List.setIfInBounds_toArray, List.set_cons_zero, List.set_cons_succ]
  all_goals
    refine wpAnyH_ready (rs := [7]) (by kernel_rfl) (by simp) (AllReadyH.cons (o := ⟨_, _, _, _, _, _⟩) rfl (fun K hK => ?_) AllReadyH.nil)
    refine step_append_lies _ rfl (.tmp 28) (.tmp 30) 207 rfl 0 274 i0 _ 33 40 Tryd.underlying207 hi0 hz0 hz1 hz2 rfl (by decide) v st.wait.length (wcells st.wait) rfl (hWo.alloc _) ⟨W.heap.size, 0, none⟩ 1 1 (wcell x) rfl (by omega) (pnews_last _ _ _) (one_wcell x) (by decide) (by unfold maxLen; omega) (by omega) (Nat.zero_le _) _ rfl ?_
    intro g cap w1 hown hgrow hat hlt
    have hb1 : w1.heap[b]? = W.heap[b]? := (hgrow.block b (by simp; omega) (fun e => hne e.symm)).trans (Below.heap_alloc _ _ _ (by simpa using hbW))
    have hu1 : w1.heap[u]? = W.heap[u]? := (hgrow.block u (by simp; omega) (fun e => hne2 e.symm)).trans (Below.heap_alloc _ _ _ (by simpa using huW))
    have hc1 : w1.cell? ⟨b, 4097, none⟩ = some v := (World.cell?_of_block (a := ⟨b, 4097, none⟩) hb1).trans hWv
    have hf1 : w1.frozen? ⟨b, 4097, none⟩ = false := (World.frozen?_of_block (a := ⟨b, 4097, none⟩) hb1).trans hWf
    have hgb : (Value.slice (some ⟨g, 0, none⟩) (st.wait.length + 1) cap).ownBlock ≠ some b := by
      simp only [Value.ownBlock, ne_eq, Option.some.injEq]
      rcases hat with h1 | h1
      · intro e; subst e; exact hne h1
      · simp at h1; omega
    have hp2 := hpW.push (i := x.1) (s := x.2) hb1 hown hgb hxi hxs
    have hmv : Moves (pfp b v) w (w1.setCell ⟨b, 4097, none⟩ (.slice (some ⟨g, 0, none⟩) (st.wait.length + 1) cap)) :=
      ((((hmW.drew).alloc _).grown hgrow (fun k hk => .inl (.inr hk))).setCell _ _ (.inl (.inl rfl)))
    have hfp : ∀ k, pfp b (.slice (some ⟨g, 0, none⟩) (st.wait.length + 1) cap) k → pfp b v k ∨ w.heap.size ≤ k := by
      intro k hk
      rcases hk with hk | hk
      · exact .inl (.inl hk)
      · simp only [Value.ownBlock, Option.some.injEq] at hk
        subst hk
        rcases hat with h1 | h1
        · exact .inl (.inr h1)
        · right; simp at h1; have := hmW.size; omega
    refine hK.out _ _ (rangeAt_congr hWx hu1) (fun hHeld => ?_)
    clear hK K
    try simp only [Act.put, List.setIfInBounds_toArray, List.set_cons_zero, List.set_cons_succ]
    refine wpAnyH_take (i := 8) (oi := ⟨_, _, _, _, _, _⟩) (v := .pointer (some ⟨b, 0, none⟩)) rfl (by kernel_rfl) (by kernel_rfl) (by kernel_rfl) (fun _ _ _ h => h) (Or.inl ⟨by rfl, fun _ _ => by go_simp⟩) hHeld ?_
    try simp only [Act.put, List.setIfInBounds_toArray, List.set_cons_zero, List.set_cons_succ]
    refine wpAnyH_take (i := 9) (oi := ⟨_, _, _, _, _, _⟩) (v := .pointer (some ⟨b, 4097, none⟩)) rfl (by kernel_rfl) (by kernel_rfl) (by kernel_rfl) (fun _ _ _ h => h) (Or.inl ⟨by rfl, fun _ _ => by go_simp⟩) hHeld ?_
    try simp only [Act.put, List.setIfInBounds_toArray, List.set_cons_zero, List.set_cons_succ]
    refine wpAnyH_ready (rs := [10]) (by kernel_rfl) (by simp) (AllReadyH.cons (o := ⟨_, _, _, _, _, _⟩) rfl (fun K hK => ?_) AllReadyH.nil)
    go_simp
    refine hK.out _ _ (rangeAt_setCell hHeld _ _ (.inl hbu)) (fun _ => ?_)
    clear hK K
    try simp only [Act.put, List.setIfInBounds_toArray, List.set_cons_zero, List.set_cons_succ]
    refine wpAnyH_done (by kernel_rfl) ?_ _
    have hc := plast_any hp2 hn (by simp [PS.waits]; omega)
    clear hHeld hown hgrow hat hlt hb1 hu1 hc1 hf1 hgb hp2
    go_wp2_with fail
    refine hc.mono ?_
    rintro e w2 ⟨rfl, hto⟩
    have ex := Hx.out
    have hto2 := ToPlate.trans hmv hfp hto
    clear hto hmv hfp
    cases hB : (st.waits x.1 x.2).lastB
    all_goals
      have HE : Hid (st.lastE = _) := PS.lastE_of hB
      have HB := Lib.hid ex
      clear hB ex
      go_wp2_with fail
      go_ret
      have ex := HB.out
      subst ex
      exact ⟨by rw [HE.out]; rfl, hto2⟩

set_option maxRecDepth 100000 in
set_option maxHeartbeats 1000000 in
theorem write_any {b : Nat} {v : Value} {st : PS} {w : World} (h : IsPlate w b v st) (hn : st.calls < 1000000000) (hwl : st.wait.length < 1000000) (i : Int) (s : ByteArray) (hs : s.size ≤ maxLen) :
    Calls Tryd.prog 175 #[.pointer (some ⟨b, 0, none⟩), .int .i64 i, .string s] w fun e w' => e = .returned (.int .i64 (st.writeE i s.data.toList)) ∧ ToPlate w b v (st.writeS i s.data.toList) w' := by
  have el : s.data.toList.length = s.size := rfl
  by_cases hw : st.wrong i = 0
  · by_cases hl : s.size ≤ 32
    · obtain ⟨n, rfl⟩ := Int.eq_ofNat_of_zero_le (PS.wrong_lt hw).1
      refine (write_ok h hn hwl n s hw hl).mono ?_
      rintro e w' ⟨rfl, hto⟩
      have e1 : st.writeE n s.data.toList = st.lastE := by simp [PS.writeE, hw, el, hl, PS.lastE]
      have e2 : st.writeS n s.data.toList = (st.waits n (pad s.data.toList)).lastS := by simp [PS.writeS, hw, el, hl]
      rw [e1, e2]
      exact ⟨rfl, hto⟩
    · have e1 : st.writeE i s.data.toList = 11 := by simp [PS.writeE, hw, el, hl]
      have e2 : st.writeS i s.data.toList = st := by simp [PS.writeS, el, hl]
      rw [e1, e2]
      have hwr := wrong_any h i
      rw [hw] at hwr
      unfold maxLen at hs
      clear e1 e2 el hw
      go_enter Tryd.func175, Tryd.ntmps175
      go_wp2_with fail
      refine hwr.mono ?_
      rintro e w1 ⟨rfl, rfl⟩
      go_wp2_with fail
      go_ret
      exact ⟨rfl, .refl h⟩
  · have e1 : st.writeE i s.data.toList = st.wrong i := by simp [PS.writeE, hw]
    have e2 : st.writeS i s.data.toList = st := by simp [PS.writeS, hw]
    rw [e1, e2]
    have hwr := wrong_any h i
    have hb : (st.wrong i != 0) = true := by simpa using hw
    clear e1 e2 el hw
    generalize st.wrong i = q at hb hwr ⊢
    go_enter Tryd.func175, Tryd.ntmps175
    go_wp2_with fail
    refine hwr.mono ?_
    rintro e w1 ⟨rfl, rfl⟩
    go_wp2_with fail
    go_ret
    exact ⟨rfl, .refl h⟩
end Go.Proofs.YtkbncbkmaakpkaaDoor
